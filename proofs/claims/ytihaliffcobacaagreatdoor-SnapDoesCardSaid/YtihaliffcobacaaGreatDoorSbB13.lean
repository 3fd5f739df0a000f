/- RefSoundAny: laid together. -/
import Derived.Test.YtihaliffcobacaaGreatDoorSbB12
import Derived.Test.YtihaliffcobacaaGreatDoorSbB8
set_option linter.unusedSimpArgs false
set_option linter.unusedVariables false
set_option maxHeartbeats 25600000
set_option maxRecDepth 20000
namespace Go.Proofs.YtihaliffcobacaaGreatDoor
open Go.RowKit
theorem snd_flat (k : UInt8) (n : Int) (s : ByteArray) : V.snd (.mk k n s [] []) = plainB (.mk k n s [] []) := by rw [V.snd]; simp [risesB, V.snds, F.snds]
theorem snd_list (l : List V) : V.snd (.mk 4 0 ⟨#[]⟩ l []) = l.all V.snd := by rw [V.snd, V.snds_all]; simp [risesB, F.snds, plainB, V.kind, V.n, V.s, V.o, ByteArray.toList_eq]
theorem snd_obj (o : List F) : V.snd (.mk 5 0 ⟨#[]⟩ [] o) = (risesB o && o.all F.snd) := by rw [V.snd, F.snds_all]; simp [V.snds, plainB, V.kind, V.n, V.s, V.l, ByteArray.toList_eq]
theorem valid_nil : Lib.validD (⟨#[]⟩ : ByteArray).data.toList = true := rfl
theorem str_nonempty {s : ByteArray} (h : s ≠ ⟨#[]⟩) : ¬ s.toList = [] := fun e => h (key_eq (by rw [e, ByteArray.toList_eq]))
theorem rsound_any (w0 : World) (hv : ValAny w0) : ∀ (m : Nat) (x : V), x.size ≤ m → VStr BigR x → ∀ (u : Value) (S : BS) (w : World), Ext w0 w → VAt w S u x →
  Calls Tryz.prog 114 #[u] w fun e w' => e = .returned (.bool x.snd) ∧ Ext w w' := by
 intro m
 induction m with
 | zero => intro x h; have := x.size_pos; omega
 | succ m ih =>
 intro x hsz hstr u S w hw0 hu
 obtain ⟨lv, ov, rfl, hl, ho⟩ := hu
 obtain ⟨A, c, rfl, hlc, hcm⟩ := hl.shape
 obtain ⟨A', c', rfl, hlc', hcm'⟩ := ho.shape
 unfold maxLen at hcm hcm'
 have hlen := V.size_eq x
 have HIH := hid ih
 have HV := hid (hv.ext hw0)
 have HW0 := hid hw0
 have HSTR := hid hstr
 clear hw0
 cases x with
 | mk k n s l o =>
 simp only [V.kind, V.n, V.s, V.l, V.o] at *
 have hE1 : Ext w (w.alloc (.cells #[U8 k, .int .i64 n, .string s, .slice A l.length c, .slice A' o.length c'] TVAL)) := (Keep.refl _ _).alloc _
 have hb1 := Blk.new w TVAL #[U8 k, .int .i64 n, .string s, .slice A l.length c, .slice A' o.length c']
 have HL := hid (hl.ext EVal.ok hE1)
 have HO := hid (ho.ext EField.ok hE1)
 have HE1 := hid hE1
 have HB1 := hid hb1
 have HSZ := hid (And.intro hsz hlen)
 have hslen := hid (show s.size ≤ 9223372036854775807 from bigR (VStr.s hstr))
 have h0w : w.heap.size < (w.alloc (.cells #[U8 k, .int .i64 n, .string s, .slice A l.length c, .slice A' o.length c'] TVAL)).heap.size := by simp
 obtain ⟨xs, hxs⟩ : ∃ b, V.snd (.mk k n s l o) = b := ⟨_, rfl⟩
 rw [hxs]
 have HXS := hid hxs
 clear ih hv hl ho hE1 hb1 hsz hlen hxs hstr
 have hkk : k = 0 ∨ k = 1 ∨ k = 2 ∨ k = 3 ∨ k = 4 ∨ k = 5 ∨ 5 < k.toNat := by
  have h0 : ∀ j : UInt8, k.toNat = j.toNat → k = j := fun j h => UInt8.toNat_inj.1 h
  rcases Nat.lt_or_ge 5 k.toNat with h | h
  ·exact .inr (.inr (.inr (.inr (.inr (.inr h)))))
  ·rcases (show k.toNat = 0 ∨ k.toNat = 1 ∨ k.toNat = 2 ∨ k.toNat = 3 ∨ k.toNat = 4 ∨ k.toNat = 5 by omega) with h | h | h | h | h | h
   ·exact .inl (h0 0 h)
   ·exact .inr (.inl (h0 1 h))
   ·exact .inr (.inr (.inl (h0 2 h)))
   ·exact .inr (.inr (.inr (.inl (h0 3 h))))
   ·exact .inr (.inr (.inr (.inr (.inl (h0 4 h)))))
   ·exact .inr (.inr (.inr (.inr (.inr (.inl (h0 5 h))))))
 rcases hkk with rfl | rfl | rfl | rfl | rfl | rfl | hk
 ·skip
  by_cases hs0 : s = ⟨#[]⟩
  ·subst hs0
   by_cases hl0 : l = []
   ·subst hl0
    by_cases ho0 : o = []
    ·subst ho0
     by_cases hn0 : n = 0
     ·subst hn0
      have HR := hid (show xs = true from by rw [← HXS.out, snd_flat]; simp [plainB, V.kind, V.n, V.s, V.l, V.o, ByteArray.toList_eq])
      obtain ⟨q0, q1, q2, q3, q4⟩ := blk5 HB1.out
      go_enter Tryz.func114, Tryz.ntmps114
      go_wp2_with fail
      generalize w.alloc (.cells _ _) = w1 at *
      have hcall := HV.out _ hslen.out _ HE1.out
      rw [valid_nil] at hcall
      refine hcall.mono ?_
      rintro e w2 ⟨rfl, hE2⟩
      replace HE1 := hid (HE1.out.ext hE2)
      replace HB1 := hid (HB1.out.keep hE2 id)
      replace HL := hid (HL.out.ext EVal.ok hE2)
      replace HO := hid (HO.out.ext EField.ok hE2)
      clear hE2 hcall q0 q1 q2 q3 q4 h0w
      obtain ⟨q0, q1, q2, q3, q4⟩ := blk5 HB1.out
      go_wp2_with fail
      go_loopw [3, 4] (fun i _ wr => i = .int .i64 0 ∧ Ext w2 wr) (fun i _ _ => 0)
      case atStart => exact ⟨rfl, Keep.refl _ _⟩
      case round =>
       obtain ⟨rfl, hEr⟩ := hrel
       have HEr := hid hEr
       replace q0 := sqw hEr q0
       replace q1 := sqw hEr q1
       replace q2 := sqw hEr q2
       replace q3 := sqw hEr q3
       replace q4 := sqw hEr q4
       clear hEr
       go_wp2_with fail
       go_loopw [5, 6] (fun i _ ws => i = .int .i64 0 ∧ Ext wr ws) (fun i _ _ => 0)
       case atStart => exact ⟨rfl, Keep.refl _ _⟩
       case round =>
        obtain ⟨rfl, hEs⟩ := hrel
        have HEs := hid (HEr.out.ext hEs)
        replace q0 := sqw hEs q0
        replace q1 := sqw hEs q1
        replace q2 := sqw hEs q2
        replace q3 := sqw hEs q3
        replace q4 := sqw hEs q4
        clear hEs
        go_wp2
        go_ret
        exact ⟨by rw [HR.out]; first | rfl | simp, HE1.out.ext HEs.out⟩
     ·have hn1 : (n == 0) = false := by simpa using hn0
      have hn2 : (n != 0) = true := by simpa using hn0
      have HB := hid (show xs = false from by rw [← HXS.out, V.snd]; simp [plainB, V.kind, V.n, V.s, V.l, V.o, hn1])
      obtain ⟨q0, q1, q2, q3, q4⟩ := blk5 HB1.out
      go_enter Tryz.func114, Tryz.ntmps114
      go_wp2
      go_ret
      exact ⟨by rw [HB.out]; first | rfl | simp, HE1.out⟩
    ·have ho1 : 0 < o.length := List.length_pos_iff.2 ho0
     have ho2 : (0 : Int) < o.length := by omega
     have ho3 : o.isEmpty = false := by simpa using ho0
     have HB := hid (show xs = false from by rw [← HXS.out, V.snd]; simp [plainB, V.kind, V.n, V.s, V.l, V.o, ho3])
     obtain ⟨q0, q1, q2, q3, q4⟩ := blk5 HB1.out
     go_enter Tryz.func114, Tryz.ntmps114
     go_wp2
     go_ret
     exact ⟨by rw [HB.out]; first | rfl | simp, HE1.out⟩
   ·have hl1 : 0 < l.length := List.length_pos_iff.2 hl0
    have hl2 : (0 : Int) < l.length := by omega
    have hl3 : l.isEmpty = false := by simpa using hl0
    have HB := hid (show xs = false from by rw [← HXS.out, V.snd]; simp [plainB, V.kind, V.n, V.s, V.l, V.o, hl3])
    obtain ⟨q0, q1, q2, q3, q4⟩ := blk5 HB1.out
    go_enter Tryz.func114, Tryz.ntmps114
    go_wp2
    go_ret
    exact ⟨by rw [HB.out]; first | rfl | simp, HE1.out⟩
  ·have hs1 := str_nonempty hs0
   have hs2 : s.toList.isEmpty = false := by simpa using hs1
   have HB := hid (show xs = false from by rw [← HXS.out, V.snd]; simp [plainB, V.kind, V.n, V.s, V.l, V.o, hs2])
   obtain ⟨q0, q1, q2, q3, q4⟩ := blk5 HB1.out
   go_enter Tryz.func114, Tryz.ntmps114
   go_wp2
   go_ret
   exact ⟨by rw [HB.out]; first | rfl | simp, HE1.out⟩
 ·skip
  by_cases hs0 : s = ⟨#[]⟩
  ·subst hs0
   by_cases hl0 : l = []
   ·subst hl0
    by_cases ho0 : o = []
    ·subst ho0
     by_cases hn0 : n = 0
     ·subst hn0
      have HR := hid (show xs = true from by rw [← HXS.out, snd_flat]; simp [plainB, V.kind, V.n, V.s, V.l, V.o, ByteArray.toList_eq])
      obtain ⟨q0, q1, q2, q3, q4⟩ := blk5 HB1.out
      go_enter Tryz.func114, Tryz.ntmps114
      go_wp2_with fail
      generalize w.alloc (.cells _ _) = w1 at *
      have hcall := HV.out _ hslen.out _ HE1.out
      rw [valid_nil] at hcall
      refine hcall.mono ?_
      rintro e w2 ⟨rfl, hE2⟩
      replace HE1 := hid (HE1.out.ext hE2)
      replace HB1 := hid (HB1.out.keep hE2 id)
      replace HL := hid (HL.out.ext EVal.ok hE2)
      replace HO := hid (HO.out.ext EField.ok hE2)
      clear hE2 hcall q0 q1 q2 q3 q4 h0w
      obtain ⟨q0, q1, q2, q3, q4⟩ := blk5 HB1.out
      go_wp2_with fail
      go_loopw [3, 4] (fun i _ wr => i = .int .i64 0 ∧ Ext w2 wr) (fun i _ _ => 0)
      case atStart => exact ⟨rfl, Keep.refl _ _⟩
      case round =>
       obtain ⟨rfl, hEr⟩ := hrel
       have HEr := hid hEr
       replace q0 := sqw hEr q0
       replace q1 := sqw hEr q1
       replace q2 := sqw hEr q2
       replace q3 := sqw hEr q3
       replace q4 := sqw hEr q4
       clear hEr
       go_wp2_with fail
       go_loopw [5, 6] (fun i _ ws => i = .int .i64 0 ∧ Ext wr ws) (fun i _ _ => 0)
       case atStart => exact ⟨rfl, Keep.refl _ _⟩
       case round =>
        obtain ⟨rfl, hEs⟩ := hrel
        have HEs := hid (HEr.out.ext hEs)
        replace q0 := sqw hEs q0
        replace q1 := sqw hEs q1
        replace q2 := sqw hEs q2
        replace q3 := sqw hEs q3
        replace q4 := sqw hEs q4
        clear hEs
        go_wp2
        go_ret
        exact ⟨by rw [HR.out]; first | rfl | simp, HE1.out.ext HEs.out⟩
     ·by_cases hn9 : n = 1
      ·subst hn9
       clear hn0
       have HR := hid (show xs = true from by rw [← HXS.out, snd_flat]; simp [plainB, V.kind, V.n, V.s, V.l, V.o, ByteArray.toList_eq])
       obtain ⟨q0, q1, q2, q3, q4⟩ := blk5 HB1.out
       go_enter Tryz.func114, Tryz.ntmps114
       go_wp2_with fail
       generalize w.alloc (.cells _ _) = w1 at *
       have hcall := HV.out _ hslen.out _ HE1.out
       rw [valid_nil] at hcall
       refine hcall.mono ?_
       rintro e w2 ⟨rfl, hE2⟩
       replace HE1 := hid (HE1.out.ext hE2)
       replace HB1 := hid (HB1.out.keep hE2 id)
       replace HL := hid (HL.out.ext EVal.ok hE2)
       replace HO := hid (HO.out.ext EField.ok hE2)
       clear hE2 hcall q0 q1 q2 q3 q4 h0w
       obtain ⟨q0, q1, q2, q3, q4⟩ := blk5 HB1.out
       go_wp2_with fail
       go_loopw [3, 4] (fun i _ wr => i = .int .i64 0 ∧ Ext w2 wr) (fun i _ _ => 0)
       case atStart => exact ⟨rfl, Keep.refl _ _⟩
       case round =>
        obtain ⟨rfl, hEr⟩ := hrel
        have HEr := hid hEr
        replace q0 := sqw hEr q0
        replace q1 := sqw hEr q1
        replace q2 := sqw hEr q2
        replace q3 := sqw hEr q3
        replace q4 := sqw hEr q4
        clear hEr
        go_wp2_with fail
        go_loopw [5, 6] (fun i _ ws => i = .int .i64 0 ∧ Ext wr ws) (fun i _ _ => 0)
        case atStart => exact ⟨rfl, Keep.refl _ _⟩
        case round =>
         obtain ⟨rfl, hEs⟩ := hrel
         have HEs := hid (HEr.out.ext hEs)
         replace q0 := sqw hEs q0
         replace q1 := sqw hEs q1
         replace q2 := sqw hEs q2
         replace q3 := sqw hEs q3
         replace q4 := sqw hEs q4
         clear hEs
         go_wp2
         go_ret
         exact ⟨by rw [HR.out]; first | rfl | simp, HE1.out.ext HEs.out⟩
      ·have hn1 : (n == 0) = false := by simpa using hn0
       have hn2 : (n != 0) = true := by simpa using hn0
       have hn3 : (n == 1) = false := by simpa using hn9
       have hn4 : (n != 1) = true := by simpa using hn9
       have HB := hid (show xs = false from by rw [← HXS.out, V.snd]; simp [plainB, V.kind, V.n, V.s, V.l, V.o, hn1, hn3])
       obtain ⟨q0, q1, q2, q3, q4⟩ := blk5 HB1.out
       go_enter Tryz.func114, Tryz.ntmps114
       go_wp2
       go_ret
       exact ⟨by rw [HB.out]; first | rfl | simp, HE1.out⟩
    ·have ho1 : 0 < o.length := List.length_pos_iff.2 ho0
     have ho2 : (0 : Int) < o.length := by omega
     have ho3 : o.isEmpty = false := by simpa using ho0
     have HB := hid (show xs = false from by rw [← HXS.out, V.snd]; simp [plainB, V.kind, V.n, V.s, V.l, V.o, ho3])
     obtain ⟨q0, q1, q2, q3, q4⟩ := blk5 HB1.out
     go_enter Tryz.func114, Tryz.ntmps114
     go_wp2
     go_ret
     exact ⟨by rw [HB.out]; first | rfl | simp, HE1.out⟩
   ·have hl1 : 0 < l.length := List.length_pos_iff.2 hl0
    have hl2 : (0 : Int) < l.length := by omega
    have hl3 : l.isEmpty = false := by simpa using hl0
    have HB := hid (show xs = false from by rw [← HXS.out, V.snd]; simp [plainB, V.kind, V.n, V.s, V.l, V.o, hl3])
    obtain ⟨q0, q1, q2, q3, q4⟩ := blk5 HB1.out
    go_enter Tryz.func114, Tryz.ntmps114
    go_wp2
    go_ret
    exact ⟨by rw [HB.out]; first | rfl | simp, HE1.out⟩
  ·have hs1 := str_nonempty hs0
   have hs2 : s.toList.isEmpty = false := by simpa using hs1
   have HB := hid (show xs = false from by rw [← HXS.out, V.snd]; simp [plainB, V.kind, V.n, V.s, V.l, V.o, hs2])
   obtain ⟨q0, q1, q2, q3, q4⟩ := blk5 HB1.out
   go_enter Tryz.func114, Tryz.ntmps114
   go_wp2
   go_ret
   exact ⟨by rw [HB.out]; first | rfl | simp, HE1.out⟩
 ·skip
  by_cases hs0 : s = ⟨#[]⟩
  ·subst hs0
   by_cases hl0 : l = []
   ·subst hl0
    by_cases ho0 : o = []
    ·subst ho0
     have HR := hid (show xs = true from by rw [← HXS.out, snd_flat]; simp [plainB, V.kind, V.n, V.s, V.l, V.o, ByteArray.toList_eq])
     obtain ⟨q0, q1, q2, q3, q4⟩ := blk5 HB1.out
     go_enter Tryz.func114, Tryz.ntmps114
     go_wp2_with fail
     generalize w.alloc (.cells _ _) = w1 at *
     have hcall := HV.out _ hslen.out _ HE1.out
     rw [valid_nil] at hcall
     refine hcall.mono ?_
     rintro e w2 ⟨rfl, hE2⟩
     replace HE1 := hid (HE1.out.ext hE2)
     replace HB1 := hid (HB1.out.keep hE2 id)
     replace HL := hid (HL.out.ext EVal.ok hE2)
     replace HO := hid (HO.out.ext EField.ok hE2)
     clear hE2 hcall q0 q1 q2 q3 q4 h0w
     obtain ⟨q0, q1, q2, q3, q4⟩ := blk5 HB1.out
     go_wp2_with fail
     go_loopw [3, 4] (fun i _ wr => i = .int .i64 0 ∧ Ext w2 wr) (fun i _ _ => 0)
     case atStart => exact ⟨rfl, Keep.refl _ _⟩
     case round =>
      obtain ⟨rfl, hEr⟩ := hrel
      have HEr := hid hEr
      replace q0 := sqw hEr q0
      replace q1 := sqw hEr q1
      replace q2 := sqw hEr q2
      replace q3 := sqw hEr q3
      replace q4 := sqw hEr q4
      clear hEr
      go_wp2_with fail
      go_loopw [5, 6] (fun i _ ws => i = .int .i64 0 ∧ Ext wr ws) (fun i _ _ => 0)
      case atStart => exact ⟨rfl, Keep.refl _ _⟩
      case round =>
       obtain ⟨rfl, hEs⟩ := hrel
       have HEs := hid (HEr.out.ext hEs)
       replace q0 := sqw hEs q0
       replace q1 := sqw hEs q1
       replace q2 := sqw hEs q2
       replace q3 := sqw hEs q3
       replace q4 := sqw hEs q4
       clear hEs
       go_wp2
       go_ret
       exact ⟨by rw [HR.out]; first | rfl | simp, HE1.out.ext HEs.out⟩
    ·have ho1 : 0 < o.length := List.length_pos_iff.2 ho0
     have ho2 : (0 : Int) < o.length := by omega
     have ho3 : o.isEmpty = false := by simpa using ho0
     have HB := hid (show xs = false from by rw [← HXS.out, V.snd]; simp [plainB, V.kind, V.n, V.s, V.l, V.o, ho3])
     obtain ⟨q0, q1, q2, q3, q4⟩ := blk5 HB1.out
     go_enter Tryz.func114, Tryz.ntmps114
     go_wp2
     go_ret
     exact ⟨by rw [HB.out]; first | rfl | simp, HE1.out⟩
   ·have hl1 : 0 < l.length := List.length_pos_iff.2 hl0
    have hl2 : (0 : Int) < l.length := by omega
    have hl3 : l.isEmpty = false := by simpa using hl0
    have HB := hid (show xs = false from by rw [← HXS.out, V.snd]; simp [plainB, V.kind, V.n, V.s, V.l, V.o, hl3])
    obtain ⟨q0, q1, q2, q3, q4⟩ := blk5 HB1.out
    go_enter Tryz.func114, Tryz.ntmps114
    go_wp2
    go_ret
    exact ⟨by rw [HB.out]; first | rfl | simp, HE1.out⟩
  ·have hs1 := str_nonempty hs0
   have hs2 : s.toList.isEmpty = false := by simpa using hs1
   have HB := hid (show xs = false from by rw [← HXS.out, V.snd]; simp [plainB, V.kind, V.n, V.s, V.l, V.o, hs2])
   obtain ⟨q0, q1, q2, q3, q4⟩ := blk5 HB1.out
   go_enter Tryz.func114, Tryz.ntmps114
   go_wp2
   go_ret
   exact ⟨by rw [HB.out]; first | rfl | simp, HE1.out⟩
 ·skip
  by_cases hl0 : l = []
  ·subst hl0
   by_cases ho0 : o = []
   ·subst ho0
    by_cases hn0 : n = 0
    ·subst hn0
     cases hvd : Lib.validD s.data.toList with
     | true =>
      have HR := hid (show xs = true from by rw [← HXS.out, snd_flat]; simp [plainB, V.kind, V.n, V.s, V.l, V.o, ByteArray.toList_eq, hvd])
      obtain ⟨q0, q1, q2, q3, q4⟩ := blk5 HB1.out
      go_enter Tryz.func114, Tryz.ntmps114
      go_wp2_with fail
      generalize w.alloc (.cells _ _) = w1 at *
      have hcall := HV.out _ hslen.out _ HE1.out
      rw [hvd] at hcall
      refine hcall.mono ?_
      rintro e w2 ⟨rfl, hE2⟩
      replace HE1 := hid (HE1.out.ext hE2)
      replace HB1 := hid (HB1.out.keep hE2 id)
      replace HL := hid (HL.out.ext EVal.ok hE2)
      replace HO := hid (HO.out.ext EField.ok hE2)
      clear hE2 hcall q0 q1 q2 q3 q4 h0w
      obtain ⟨q0, q1, q2, q3, q4⟩ := blk5 HB1.out
      clear hvd
      go_wp2_with fail
      go_loopw [3, 4] (fun i _ wr => i = .int .i64 0 ∧ Ext w2 wr) (fun i _ _ => 0)
      case atStart => exact ⟨rfl, Keep.refl _ _⟩
      case round =>
       obtain ⟨rfl, hEr⟩ := hrel
       have HEr := hid hEr
       replace q0 := sqw hEr q0
       replace q1 := sqw hEr q1
       replace q2 := sqw hEr q2
       replace q3 := sqw hEr q3
       replace q4 := sqw hEr q4
       clear hEr
       go_wp2_with fail
       go_loopw [5, 6] (fun i _ ws => i = .int .i64 0 ∧ Ext wr ws) (fun i _ _ => 0)
       case atStart => exact ⟨rfl, Keep.refl _ _⟩
       case round =>
        obtain ⟨rfl, hEs⟩ := hrel
        have HEs := hid (HEr.out.ext hEs)
        replace q0 := sqw hEs q0
        replace q1 := sqw hEs q1
        replace q2 := sqw hEs q2
        replace q3 := sqw hEs q3
        replace q4 := sqw hEs q4
        clear hEs
        go_wp2
        go_ret
        exact ⟨by rw [HR.out]; first | rfl | simp, HE1.out.ext HEs.out⟩
     | false =>
      have HB := hid (show xs = false from by rw [← HXS.out, snd_flat]; simp [plainB, V.kind, V.n, V.s, V.l, V.o, hvd])
      obtain ⟨q0, q1, q2, q3, q4⟩ := blk5 HB1.out
      go_enter Tryz.func114, Tryz.ntmps114
      go_wp2_with fail
      generalize w.alloc (.cells _ _) = w1 at *
      have hcall := HV.out _ hslen.out _ HE1.out
      rw [hvd] at hcall
      refine hcall.mono ?_
      rintro e w2 ⟨rfl, hE2⟩
      replace HE1 := hid (HE1.out.ext hE2)
      replace HB1 := hid (HB1.out.keep hE2 id)
      replace HL := hid (HL.out.ext EVal.ok hE2)
      replace HO := hid (HO.out.ext EField.ok hE2)
      clear hE2 hcall q0 q1 q2 q3 q4 h0w
      obtain ⟨q0, q1, q2, q3, q4⟩ := blk5 HB1.out
      clear hvd
      go_wp2
      go_ret
      exact ⟨by rw [HB.out]; first | rfl | simp, HE1.out⟩
    ·have hn1 : (n == 0) = false := by simpa using hn0
     have hn2 : (n != 0) = true := by simpa using hn0
     have HB := hid (show xs = false from by rw [← HXS.out, V.snd]; simp [plainB, V.kind, V.n, V.s, V.l, V.o, hn1])
     obtain ⟨q0, q1, q2, q3, q4⟩ := blk5 HB1.out
     go_enter Tryz.func114, Tryz.ntmps114
     go_wp2
     go_ret
     exact ⟨by rw [HB.out]; first | rfl | simp, HE1.out⟩
   ·have ho1 : 0 < o.length := List.length_pos_iff.2 ho0
    have ho2 : (0 : Int) < o.length := by omega
    have ho3 : o.isEmpty = false := by simpa using ho0
    have HB := hid (show xs = false from by rw [← HXS.out, V.snd]; simp [plainB, V.kind, V.n, V.s, V.l, V.o, ho3])
    obtain ⟨q0, q1, q2, q3, q4⟩ := blk5 HB1.out
    go_enter Tryz.func114, Tryz.ntmps114
    go_wp2
    go_ret
    exact ⟨by rw [HB.out]; first | rfl | simp, HE1.out⟩
  ·have hl1 : 0 < l.length := List.length_pos_iff.2 hl0
   have hl2 : (0 : Int) < l.length := by omega
   have hl3 : l.isEmpty = false := by simpa using hl0
   have HB := hid (show xs = false from by rw [← HXS.out, V.snd]; simp [plainB, V.kind, V.n, V.s, V.l, V.o, hl3])
   obtain ⟨q0, q1, q2, q3, q4⟩ := blk5 HB1.out
   go_enter Tryz.func114, Tryz.ntmps114
   go_wp2
   go_ret
   exact ⟨by rw [HB.out]; first | rfl | simp, HE1.out⟩
 ·skip
  by_cases hs0 : s = ⟨#[]⟩
  ·subst hs0
   by_cases ho0 : o = []
   ·subst ho0
    by_cases hn0 : n = 0
    ·subst hn0
     have HR := hid (show xs = l.all V.snd from by rw [← HXS.out]; exact snd_list l)
     obtain ⟨q0, q1, q2, q3, q4⟩ := blk5 HB1.out
     go_enter Tryz.func114, Tryz.ntmps114
     go_wp2_with fail
     generalize w.alloc (.cells _ _) = w1 at *
     have hcall := HV.out _ hslen.out _ HE1.out
     rw [valid_nil] at hcall
     refine hcall.mono ?_
     rintro e w2 ⟨rfl, hE2⟩
     replace HE1 := hid (HE1.out.ext hE2)
     replace HB1 := hid (HB1.out.keep hE2 id)
     replace HL := hid (HL.out.ext EVal.ok hE2)
     replace HO := hid (HO.out.ext EField.ok hE2)
     clear hE2 hcall q0 q1 q2 q3 q4 h0w
     obtain ⟨q0, q1, q2, q3, q4⟩ := blk5 HB1.out
     go_wp2_with fail
     go_loopw [3, 4] (fun i _ wr => ∃ j : Nat, j ≤ l.length ∧ i = .int .i64 j ∧ (∀ i (hi : i < l.length), i < j → l[i].snd = true) ∧ Ext w2 wr) (fun i _ _ => l.length - (intOf i).toNat)
     case atStart => exact ⟨0, by omega, rfl, fun i _ h => by omega, Keep.refl _ _⟩
     case round =>
      obtain ⟨j, hj, rfl, hfl, hEr⟩ := hrel
      have HEr := hid hEr
      have HF := hid hfl
      replace q0 := sqw hEr q0
      replace q1 := sqw hEr q1
      replace q2 := sqw hEr q2
      replace q3 := sqw hEr q3
      replace q4 := sqw hEr q4
      clear hEr hfl
      by_cases hlt : j < l.length
      ·obtain ⟨b1, o1, cs, rfl, _, _, hrd, hcell⟩ := (HL.out.ext EVal.ok HEr.out).at_ EVal.ok hlt
       have hyz : l[j].size ≤ m := by have := HSZ.out; have := V.sizes_mem (List.getElem_mem hlt); omega
       have hys : VStr BigR l[j] := HSTR.out.l (List.getElem_mem hlt)
       have hbad : l[j].snd = false → xs = false := fun h => by
        rw [HR.out, List.all_eq_false]
        exact ⟨l[j], List.getElem_mem hlt, by rw [h]; simp⟩
       have hnx : l[j].snd = true → ∀ i (hi : i < l.length), i < j + 1 → l[i].snd = true := fun h i hi hij => by
        rcases Nat.lt_or_ge i j with h1 | h1
        ·exact HF.out i hi h1
        ·obtain rfl : i = j := by omega
         exact h
       generalize l[j] = y at *
       obtain ⟨A1, m1, d1, A2, m2, d2, rfl, _, _, hva⟩ := EVal_cells hrd
       have c0 := hcell 0 _ rfl
       have c1 := hcell 1 _ rfl
       have c2 := hcell 2 _ rfl
       have c3 := hcell 3 _ rfl
       have c4 := hcell 4 _ rfl
       have hz : EVal.size = 5 := rfl
       simp only [hz, Nat.add_zero] at c0 c1 c2 c3 c4
       have HY := hid (And.intro hyz (And.intro hys hva))
       have HBAD := hid hbad
       have HNX := hid hnx
       clear hz hcell hrd hyz hys hva hbad hnx HF
       obtain ⟨ys, hys⟩ : ∃ b, y.snd = b := ⟨_, rfl⟩
       go_wp2_with fail
       refine (HIH.out y HY.out.1 HY.out.2.1 _ _ wr (HW0.out.ext (HE1.out.ext HEr.out)) HY.out.2.2).mono ?_
       rintro e w3 ⟨rfl, hE3⟩
       have HE3 := hid (HEr.out.ext hE3)
       have HYS := hid hys
       rw [hys]
       clear hE3 HEr c0 c1 c2 c3 c4 hys
       cases ys with
       | false =>
        have HB := hid (HBAD.out HYS.out)
        go_wp2
        go_ret
        exact ⟨by rw [HB.out]; first | rfl | simp, HE1.out.ext HE3.out⟩
       | true =>
        have HN := hid (HNX.out HYS.out)
        go_wp2
        go_roundw
        case rel => exact ⟨j + 1, by omega, by go_num, HN.out, HE3.out⟩
        case measure => simp [intOf]; omega
      ·obtain rfl : j = l.length := by omega
       have hnl : ¬ (l.length : Int) < l.length := by omega
       have HT := hid (show xs = true from by
        rw [HR.out, List.all_eq_true]
        intro y hy
        obtain ⟨i, hi, rfl⟩ := List.getElem_of_mem hy
        exact HF.out i hi hi)
       clear HF
       go_wp2_with fail
       go_loopw [5, 6] (fun i _ ws => i = .int .i64 0 ∧ Ext wr ws) (fun i _ _ => 0)
       case atStart => exact ⟨rfl, Keep.refl _ _⟩
       case round =>
        obtain ⟨rfl, hEs⟩ := hrel
        have HEs := hid (HEr.out.ext hEs)
        replace q0 := sqw hEs q0
        replace q1 := sqw hEs q1
        replace q2 := sqw hEs q2
        replace q3 := sqw hEs q3
        replace q4 := sqw hEs q4
        clear hEs
        go_wp2
        go_ret
        exact ⟨by rw [HT.out]; first | rfl | simp, HE1.out.ext HEs.out⟩
    ·have hn1 : (n == 0) = false := by simpa using hn0
     have hn2 : (n != 0) = true := by simpa using hn0
     have HB := hid (show xs = false from by rw [← HXS.out, V.snd]; simp [plainB, V.kind, V.n, V.s, V.l, V.o, hn1])
     obtain ⟨q0, q1, q2, q3, q4⟩ := blk5 HB1.out
     go_enter Tryz.func114, Tryz.ntmps114
     go_wp2
     go_ret
     exact ⟨by rw [HB.out]; first | rfl | simp, HE1.out⟩
   ·have ho1 : 0 < o.length := List.length_pos_iff.2 ho0
    have ho2 : (0 : Int) < o.length := by omega
    have ho3 : o.isEmpty = false := by simpa using ho0
    have HB := hid (show xs = false from by rw [← HXS.out, V.snd]; simp [plainB, V.kind, V.n, V.s, V.l, V.o, ho3])
    obtain ⟨q0, q1, q2, q3, q4⟩ := blk5 HB1.out
    go_enter Tryz.func114, Tryz.ntmps114
    go_wp2
    go_ret
    exact ⟨by rw [HB.out]; first | rfl | simp, HE1.out⟩
  ·have hs1 := str_nonempty hs0
   have hs2 : s.toList.isEmpty = false := by simpa using hs1
   have HB := hid (show xs = false from by rw [← HXS.out, V.snd]; simp [plainB, V.kind, V.n, V.s, V.l, V.o, hs2])
   obtain ⟨q0, q1, q2, q3, q4⟩ := blk5 HB1.out
   go_enter Tryz.func114, Tryz.ntmps114
   go_wp2
   go_ret
   exact ⟨by rw [HB.out]; first | rfl | simp, HE1.out⟩
 ·skip
  by_cases hs0 : s = ⟨#[]⟩
  ·subst hs0
   by_cases hl0 : l = []
   ·subst hl0
    by_cases hn0 : n = 0
    ·subst hn0
     have HR := hid (show xs = (risesB o && o.all F.snd) from by rw [← HXS.out]; exact snd_obj o)
     obtain ⟨q0, q1, q2, q3, q4⟩ := blk5 HB1.out
     go_enter Tryz.func114, Tryz.ntmps114
     go_wp2_with fail
     generalize w.alloc (.cells _ _) = w1 at *
     have hcall := HV.out _ hslen.out _ HE1.out
     rw [valid_nil] at hcall
     refine hcall.mono ?_
     rintro e w2 ⟨rfl, hE2⟩
     replace HE1 := hid (HE1.out.ext hE2)
     replace HB1 := hid (HB1.out.keep hE2 id)
     replace HL := hid (HL.out.ext EVal.ok hE2)
     replace HO := hid (HO.out.ext EField.ok hE2)
     clear hE2 hcall q0 q1 q2 q3 q4 h0w
     obtain ⟨q0, q1, q2, q3, q4⟩ := blk5 HB1.out
     go_wp2_with fail
     go_loopw [3, 4] (fun i _ wr => i = .int .i64 0 ∧ Ext w2 wr) (fun i _ _ => 0)
     case atStart => exact ⟨rfl, Keep.refl _ _⟩
     case round =>
      obtain ⟨rfl, hEr⟩ := hrel
      have HEr := hid hEr
      replace q0 := sqw hEr q0
      replace q1 := sqw hEr q1
      replace q2 := sqw hEr q2
      replace q3 := sqw hEr q3
      replace q4 := sqw hEr q4
      clear hEr
      go_wp2_with fail
      go_loopw [5, 6] (fun i _ ws => ∃ j : Nat, j ≤ o.length ∧ i = .int .i64 j ∧ ((∀ i (hi : i < o.length), i < j → F.snd o[i] = true) ∧ ∀ i (h : i + 1 < o.length), i + 1 < j → keyLt o[i].key o[i + 1].key = true) ∧ Ext wr ws) (fun i _ _ => o.length - (intOf i).toNat)
      case atStart => exact ⟨0, by omega, rfl, ⟨fun i _ h => by omega, fun i _ h => by omega⟩, Keep.refl _ _⟩
      case round =>
       obtain ⟨j, hj, rfl, hfl, hEs⟩ := hrel
       have HEs := hid (HEr.out.ext hEs)
       have HR0 := hid hEs
       have HF := hid hfl
       replace q0 := sqw hEs q0
       replace q1 := sqw hEs q1
       replace q2 := sqw hEs q2
       replace q3 := sqw hEs q3
       replace q4 := sqw hEs q4
       clear hEs hfl
       by_cases hlt : j < o.length
       ·obtain ⟨b1, o1, cs, rfl, _, _, hrd, hcell⟩ := (HO.out.ext EField.ok HEs.out).at_ EField.ok hlt
        have hyz : o[j].v.size ≤ m := by have := HSZ.out; have := F.sizes_mem (List.getElem_mem hlt); omega
        have hys := HSTR.out.o (List.getElem_mem hlt)
        have hbad : F.snd o[j] = false → xs = false := fun h => by
         have : o.all F.snd = false := by
          rw [List.all_eq_false]
          exact ⟨o[j], List.getElem_mem hlt, by rw [h]; simp⟩
         rw [HR.out, this, Bool.and_false]
        have hnx0 : F.snd o[j] = true → ∀ i (hi : i < o.length), i < j + 1 → F.snd o[i] = true := fun h i hi hij => by
         rcases Nat.lt_or_ge i j with h1 | h1
         ·exact HF.out.1 i hi h1
         ·obtain rfl : i = j := by omega
          exact h
        have hnx1 : ∀ i, j = i + 1 → ∀ hi : i < o.length, keyLt o[i].key o[j].key = true → ∀ k (h : k + 1 < o.length), k + 1 < j + 1 → keyLt o[k].key o[k + 1].key = true := fun i hji hi hk k h hk2 => by
         subst hji
         rcases Nat.lt_or_ge k i with h1 | h1
         ·exact HF.out.2 k h (by omega)
         ·obtain rfl : k = i := by omega
          exact hk
        have hnx2 : j = 0 → ∀ k (h : k + 1 < o.length), k + 1 < j + 1 → keyLt o[k].key o[k + 1].key = true := fun h k _ hk => by omega
        have hbad1 : ∀ i, j = i + 1 → ∀ hi : i < o.length, keyLt o[i].key o[j].key = false → xs = false := fun i hji hi hk => by
         subst hji
         cases hr : risesB o with
         | false => rw [HR.out, hr]; rfl
         | true => have := (risesB_iff o).1 hr i (by omega); rw [hk] at this; cases this
        have hprev : 0 < j → ∃ i : Nat, ∃ _ : j = i + 1, ∃ hi : i < o.length, ∃ cs, EField.rd wr (fun q => S q) cs o[i] ∧ ∀ t u, cs[t]? = some u → wr.cell? ⟨b1, o1 + i * 6 + t, none⟩ = some u := fun h => by
         obtain ⟨i, rfl⟩ : ∃ i, j = i + 1 := ⟨j - 1, by omega⟩
         obtain ⟨b2, o2, cs2, e2, _, _, hrd2, hcell2⟩ := (HO.out.ext EField.ok HEs.out).at_ EField.ok (k := i) (by omega)
         obtain ⟨rfl, rfl⟩ : b1 = b2 ∧ o1 = o2 := by simpa using e2
         exact ⟨i, rfl, by omega, cs2, hrd2, hcell2⟩
        have hsnd := F.snd_eq o[j]
        generalize o[j] = y at *
        obtain ⟨_, _, rfl, ⟨A1, d1, rfl⟩, ⟨A2, d2, rfl⟩, hva⟩ := EField_cells hrd
        have ck := hcell 0 _ rfl
        have c0 := hcell 1 _ rfl
        have c1 := hcell 2 _ rfl
        have c2 := hcell 3 _ rfl
        have c3 := hcell 4 _ rfl
        have c4 := hcell 5 _ rfl
        have hz : EField.size = 6 := rfl
        simp only [hz, Nat.add_zero] at ck c0 c1 c2 c3 c4
        have HY := hid (And.intro hyz (And.intro hys hva))
        have HPV := hid hprev
        have HBAD := hid hbad
        have HBAD1 := hid hbad1
        have HNX0 := hid hnx0
        have HNX1 := hid hnx1
        have HNX2 := hid hnx2
        have HSND := hid hsnd
        clear hz hcell hrd hyz hys hva hprev hbad hbad1 hnx0 hnx1 hnx2 hsnd HF
        obtain ⟨yb, hyb⟩ : ∃ b, y.v.snd = b := ⟨_, rfl⟩
        go_wp2_with fail
        refine (HIH.out y.v HY.out.1 HY.out.2.1.2 _ _ wr (HW0.out.ext (HE1.out.ext HEs.out)) HY.out.2.2).mono ?_
        rintro e w3 ⟨rfl, hE3⟩
        rw [hyb]
        have HYB := hid hyb
        have HE3 := hid (HEs.out.ext hE3)
        have HR3 := hid (HR0.out.ext hE3)
        replace q0 := sqw hE3 q0
        replace q1 := sqw hE3 q1
        replace q2 := sqw hE3 q2
        replace q3 := sqw hE3 q3
        replace q4 := sqw hE3 q4
        replace ck := sqw hE3 ck
        clear hyb
        cases yb with
        | false =>
         have HB := hid (HBAD.out (by rw [HSND.out, HYB.out]; simp))
         clear HPV hE3 c0 c1 c2 c3 c4
         go_wp2_with fail
         refine wp_region_grow (specOf [(9, fun v _ => v = .bool true)]) (fun w' => Ext w3 w') (stable_cons (fun v w w' h he => h) stable_nil) (stableC_ext _) (by kernel_rfl) (by kernel_rfl) (Keep.drew (Keep.refl _ _)) ?_
         iterate 3
          (try simp only [Act.put, sqa, sqb, sqc])
          refine grow_run rfl rfl rfl ?_
          apply Exists.intro
          refine ⟨fun w' hC hK => ?_, ?_⟩
          ·go_simp
           rfl
         iterate 8
          (try simp only [Act.put, sqa, sqb, sqc])
          with_reducible refine grow_skip ?_ ?_ ?_
          ·rfl
          ·rfl
         iterate 2
          (try simp only [Act.put, sqa, sqb, sqc])
          refine grow_run rfl rfl rfl ?_
          apply Exists.intro
          refine ⟨fun w' hC hK => ?_, ?_⟩
          ·go_simp
           rfl
         iterate 18
          (try simp only [Act.put, sqa, sqb, sqc])
          with_reducible refine grow_skip ?_ ?_ ?_
          ·rfl
          ·rfl
         iterate 1
          (try simp only [Act.put, sqa, sqb, sqc])
          refine grow_run rfl rfl rfl ?_
          apply Exists.intro
          refine ⟨fun w' hC hK => ?_, ?_⟩
          ·go_simp
           rfl
         refine grow_nil fun w5 hC _ => ?_
         have HR5 := hid (HE3.out.ext (show Ext w3 w5 from hC))
         clear hC q0 q1 q2 q3 q4
         go_wp2
         go_ret
         exact ⟨by rw [HB.out]; first | rfl | simp, HE1.out.ext HR5.out⟩
        | true =>
         cases hvd : Lib.validD y.key.data.toList with
         | false =>
          have HB := hid (HBAD.out (by rw [HSND.out, hvd]; rfl))
          have hcv := HV.out y.key (bigR HY.out.2.1.1)
          rw [hvd] at hcv
          have HCV := hid hcv
          clear HPV hE3 c0 c1 c2 c3 c4 hvd hcv
          go_wp2_with fail
          refine wp_region_grow (specOf [(9, fun v _ => v = .bool false)]) (fun w' => Ext w3 w') (stable_cons (fun v w w' h he => h) stable_nil) (stableC_ext _) (by kernel_rfl) (by kernel_rfl) (Keep.drew (Keep.refl _ _)) ?_
          iterate 9
           (try simp only [Act.put, sqa, sqb, sqc])
           refine grow_run rfl rfl rfl ?_
           apply Exists.intro
           refine ⟨fun w' hC hK => ?_, ?_⟩
           ·have q4 := sqw hC q4
            have ck := sqw hC ck
            go_simp
            rfl
          (try simp only [Act.put, sqa, sqb, sqc])
          refine grow_eff rfl rfl rfl (fun w' hC hK => ?_) (fun v9 hv9 => ?_)
          ·unfold growAt
           go_simp
           refine grow_call ((HCV.out w' (HE1.out.ext (HE3.out.ext hC))).mono ?_)
           rintro e w'' ⟨rfl, hE⟩
           exact ⟨_, rfl, hE, rfl⟩
          obtain ⟨_, _, rfl⟩ := hv9.head
          iterate 3
           (try simp only [Act.put, sqa, sqb, sqc])
           refine grow_run rfl rfl rfl ?_
           apply Exists.intro
           refine ⟨fun w' hC hK => ?_, ?_⟩
           ·go_simp
            rfl
          iterate 18
           (try simp only [Act.put, sqa, sqb, sqc])
           with_reducible refine grow_skip ?_ ?_ ?_
           ·rfl
           ·rfl
          iterate 1
           (try simp only [Act.put, sqa, sqb, sqc])
           refine grow_run rfl rfl rfl ?_
           apply Exists.intro
           refine ⟨fun w' hC hK => ?_, ?_⟩
           ·go_simp
            rfl
          refine grow_nil fun w5 hC _ => ?_
          have HR5 := hid (HE3.out.ext (show Ext w3 w5 from hC))
          clear hC q0 q1 q2 q3 q4
          go_wp2
          go_ret
          exact ⟨by rw [HB.out]; first | rfl | simp, HE1.out.ext HR5.out⟩
         | true =>
          have HG0 := hid (HNX0.out (by rw [HSND.out, hvd, HYB.out]; rfl))
          have hcv := HV.out y.key (bigR HY.out.2.1.1)
          rw [hvd] at hcv
          have HCV := hid hcv
          clear hvd hcv
          by_cases hj0 : 0 < j
          ·obtain ⟨i, hji, hi, cs2, hrd2, hcell2⟩ := HPV.out hj0
           have hwj : IntKind.i64.wrap ((j : Int) - 1) = (i : Int) := by rw [IntKind.wrap_i64]; omega
           have hio : (i : Int) < o.length := by omega
           have hi0 : (0 : Int) ≤ i := by omega
           have HN1 := hid (HNX1.out i hji hi)
           have HB1x := hid (HBAD1.out i hji hi)
           generalize o[i] = g at *
           clear hji HPV
           obtain ⟨_, _, rfl, _, _, _⟩ := EField_cells hrd2
           have cp := hcell2 0 _ rfl
           simp only [Nat.add_zero] at cp
           replace cp := sqw hE3 cp
           have hj0X : (0 : Int) < j := by omega
           clear hE3 hcell2 hrd2 c0 c1 c2 c3 c4
           rcases le_cases y.key g.key with ⟨hk, hb1, hb2⟩ | ⟨hk, ⟨hb1, hb2⟩ | ⟨hb0, hb2⟩⟩
           ·have HG := hid (HN1.out hk)
            clear hk HN1 HB1x
            go_wp2_with fail
            refine wp_region_grow (specOf [(9, fun v _ => v = .bool true)]) (fun w' => Ext w3 w') (stable_cons (fun v w w' h he => h) stable_nil) (stableC_ext _) (by kernel_rfl) (by kernel_rfl) (Keep.drew (Keep.refl _ _)) ?_
            iterate 9
             (try simp only [Act.put, sqa, sqb, sqc])
             refine grow_run rfl rfl rfl ?_
             apply Exists.intro
             refine ⟨fun w' hC hK => ?_, ?_⟩
             ·have q4 := sqw hC q4
              have ck := sqw hC ck
              go_simp
              rfl
            (try simp only [Act.put, sqa, sqb, sqc])
            refine grow_eff rfl rfl rfl (fun w' hC hK => ?_) (fun v9 hv9 => ?_)
            ·unfold growAt
             go_simp
             refine grow_call ((HCV.out w' (HE1.out.ext (HE3.out.ext hC))).mono ?_)
             rintro e w'' ⟨rfl, hE⟩
             exact ⟨_, rfl, hE, rfl⟩
            obtain ⟨_, _, rfl⟩ := hv9.head
            iterate 6
             (try simp only [Act.put, sqa, sqb, sqc])
             refine grow_run rfl rfl rfl ?_
             apply Exists.intro
             refine ⟨fun w' hC hK => ?_, ?_⟩
             ·go_simp
              rfl
            iterate 14
             (try simp only [Act.put, sqa, sqb, sqc])
             refine grow_run rfl rfl rfl ?_
             apply Exists.intro
             refine ⟨fun w' hC hK => ?_, ?_⟩
             ·have q4 := sqw hC q4
              have ck := sqw hC ck
              have cp := sqw hC cp
              go_simp
              rfl
            iterate 2
             (try simp only [Act.put, sqa, sqb, sqc])
             refine grow_run rfl rfl rfl ?_
             apply Exists.intro
             refine ⟨fun w' hC hK => ?_, ?_⟩
             ·go_simp
              rfl
            refine grow_nil fun w5 hC _ => ?_
            have HR5 := hid (HR3.out.ext (show Ext w3 w5 from hC))
            clear hC q0 q1 q2 q3 q4
            go_wp2
            exact ⟨⟨j + 1, by omega, by go_num, ⟨HG0.out, HG.out⟩, HR5.out⟩, by simp [intOf]; omega⟩
           ·have HG := hid (HB1x.out hk)
            clear hk HN1 HB1x
            go_wp2_with fail
            refine wp_region_grow (specOf [(9, fun v _ => v = .bool true)]) (fun w' => Ext w3 w') (stable_cons (fun v w w' h he => h) stable_nil) (stableC_ext _) (by kernel_rfl) (by kernel_rfl) (Keep.drew (Keep.refl _ _)) ?_
            iterate 9
             (try simp only [Act.put, sqa, sqb, sqc])
             refine grow_run rfl rfl rfl ?_
             apply Exists.intro
             refine ⟨fun w' hC hK => ?_, ?_⟩
             ·have q4 := sqw hC q4
              have ck := sqw hC ck
              go_simp
              rfl
            (try simp only [Act.put, sqa, sqb, sqc])
            refine grow_eff rfl rfl rfl (fun w' hC hK => ?_) (fun v9 hv9 => ?_)
            ·unfold growAt
             go_simp
             refine grow_call ((HCV.out w' (HE1.out.ext (HE3.out.ext hC))).mono ?_)
             rintro e w'' ⟨rfl, hE⟩
             exact ⟨_, rfl, hE, rfl⟩
            obtain ⟨_, _, rfl⟩ := hv9.head
            iterate 6
             (try simp only [Act.put, sqa, sqb, sqc])
             refine grow_run rfl rfl rfl ?_
             apply Exists.intro
             refine ⟨fun w' hC hK => ?_, ?_⟩
             ·go_simp
              rfl
            iterate 14
             (try simp only [Act.put, sqa, sqb, sqc])
             refine grow_run rfl rfl rfl ?_
             apply Exists.intro
             refine ⟨fun w' hC hK => ?_, ?_⟩
             ·have q4 := sqw hC q4
              have ck := sqw hC ck
              have cp := sqw hC cp
              go_simp
              rfl
            iterate 2
             (try simp only [Act.put, sqa, sqb, sqc])
             refine grow_run rfl rfl rfl ?_
             apply Exists.intro
             refine ⟨fun w' hC hK => ?_, ?_⟩
             ·go_simp
              rfl
            refine grow_nil fun w5 hC _ => ?_
            have HR5 := hid (HE3.out.ext (show Ext w3 w5 from hC))
            clear hC q0 q1 q2 q3 q4
            go_wp2
            go_ret
            exact ⟨by rw [HG.out]; first | rfl | simp, HE1.out.ext HR5.out⟩
           ·have HG := hid (HB1x.out hk)
            clear hk HN1 HB1x
            go_wp2_with fail
            refine wp_region_grow (specOf [(9, fun v _ => v = .bool true)]) (fun w' => Ext w3 w') (stable_cons (fun v w w' h he => h) stable_nil) (stableC_ext _) (by kernel_rfl) (by kernel_rfl) (Keep.drew (Keep.refl _ _)) ?_
            iterate 9
             (try simp only [Act.put, sqa, sqb, sqc])
             refine grow_run rfl rfl rfl ?_
             apply Exists.intro
             refine ⟨fun w' hC hK => ?_, ?_⟩
             ·have q4 := sqw hC q4
              have ck := sqw hC ck
              go_simp
              rfl
            (try simp only [Act.put, sqa, sqb, sqc])
            refine grow_eff rfl rfl rfl (fun w' hC hK => ?_) (fun v9 hv9 => ?_)
            ·unfold growAt
             go_simp
             refine grow_call ((HCV.out w' (HE1.out.ext (HE3.out.ext hC))).mono ?_)
             rintro e w'' ⟨rfl, hE⟩
             exact ⟨_, rfl, hE, rfl⟩
            obtain ⟨_, _, rfl⟩ := hv9.head
            iterate 6
             (try simp only [Act.put, sqa, sqb, sqc])
             refine grow_run rfl rfl rfl ?_
             apply Exists.intro
             refine ⟨fun w' hC hK => ?_, ?_⟩
             ·go_simp
              rfl
            iterate 14
             (try simp only [Act.put, sqa, sqb, sqc])
             refine grow_run rfl rfl rfl ?_
             apply Exists.intro
             refine ⟨fun w' hC hK => ?_, ?_⟩
             ·have q4 := sqw hC q4
              have ck := sqw hC ck
              have cp := sqw hC cp
              go_simp
              rfl
            iterate 2
             (try simp only [Act.put, sqa, sqb, sqc])
             refine grow_run rfl rfl rfl ?_
             apply Exists.intro
             refine ⟨fun w' hC hK => ?_, ?_⟩
             ·go_simp
              rfl
            refine grow_nil fun w5 hC _ => ?_
            have HR5 := hid (HE3.out.ext (show Ext w3 w5 from hC))
            clear hC q0 q1 q2 q3 q4
            go_wp2
            go_ret
            exact ⟨by rw [HG.out]; first | rfl | simp, HE1.out.ext HR5.out⟩
          ·have hj00 : j = 0 := by omega
           have HN2 := hid (HNX2.out hj00)
           clear HPV hE3 c0 c1 c2 c3 c4 hj00
           have hj0X : ¬ (0 : Int) < j := by omega
           go_wp2_with fail
           refine wp_region_grow (specOf [(9, fun v _ => v = .bool true)]) (fun w' => Ext w3 w') (stable_cons (fun v w w' h he => h) stable_nil) (stableC_ext _) (by kernel_rfl) (by kernel_rfl) (Keep.drew (Keep.refl _ _)) ?_
           iterate 9
            (try simp only [Act.put, sqa, sqb, sqc])
            refine grow_run rfl rfl rfl ?_
            apply Exists.intro
            refine ⟨fun w' hC hK => ?_, ?_⟩
            ·have q4 := sqw hC q4
             have ck := sqw hC ck
             go_simp
             rfl
           (try simp only [Act.put, sqa, sqb, sqc])
           refine grow_eff rfl rfl rfl (fun w' hC hK => ?_) (fun v9 hv9 => ?_)
           ·unfold growAt
            go_simp
            refine grow_call ((HCV.out w' (HE1.out.ext (HE3.out.ext hC))).mono ?_)
            rintro e w'' ⟨rfl, hE⟩
            exact ⟨_, rfl, hE, rfl⟩
           obtain ⟨_, _, rfl⟩ := hv9.head
           iterate 6
            (try simp only [Act.put, sqa, sqb, sqc])
            refine grow_run rfl rfl rfl ?_
            apply Exists.intro
            refine ⟨fun w' hC hK => ?_, ?_⟩
            ·go_simp
             rfl
           iterate 14
            (try simp only [Act.put, sqa, sqb, sqc])
            with_reducible refine grow_skip ?_ ?_ ?_
            ·rfl
            ·rfl
           iterate 2
            (try simp only [Act.put, sqa, sqb, sqc])
            refine grow_run rfl rfl rfl ?_
            apply Exists.intro
            refine ⟨fun w' hC hK => ?_, ?_⟩
            ·go_simp
             rfl
           refine grow_nil fun w5 hC _ => ?_
           have HR5 := hid (HR3.out.ext (show Ext w3 w5 from hC))
           clear hC q0 q1 q2 q3 q4
           go_wp2
           exact ⟨⟨j + 1, by omega, by go_num, ⟨HG0.out, HN2.out⟩, HR5.out⟩, by simp [intOf]; omega⟩
       ·obtain rfl : j = o.length := by omega
        have hnl : ¬ (o.length : Int) < o.length := by omega
        have HT := hid (show xs = true from by
         have h1 : o.all F.snd = true := by
          rw [List.all_eq_true]
          intro y hy
          obtain ⟨i, hi, rfl⟩ := List.getElem_of_mem hy
          exact HF.out.1 i hi hi
         rw [HR.out, h1, (risesB_iff o).2 fun i h => HF.out.2 i h h]; rfl)
        clear HF
        go_wp2
        go_ret
        exact ⟨by rw [HT.out]; first | rfl | simp, HE1.out.ext HEs.out⟩
    ·have hn1 : (n == 0) = false := by simpa using hn0
     have hn2 : (n != 0) = true := by simpa using hn0
     have HB := hid (show xs = false from by rw [← HXS.out, V.snd]; simp [plainB, V.kind, V.n, V.s, V.l, V.o, hn1])
     obtain ⟨q0, q1, q2, q3, q4⟩ := blk5 HB1.out
     go_enter Tryz.func114, Tryz.ntmps114
     go_wp2
     go_ret
     exact ⟨by rw [HB.out]; first | rfl | simp, HE1.out⟩
   ·have hl1 : 0 < l.length := List.length_pos_iff.2 hl0
    have hl2 : (0 : Int) < l.length := by omega
    have hl3 : l.isEmpty = false := by simpa using hl0
    have HB := hid (show xs = false from by rw [← HXS.out, V.snd]; simp [plainB, V.kind, V.n, V.s, V.l, V.o, hl3])
    obtain ⟨q0, q1, q2, q3, q4⟩ := blk5 HB1.out
    go_enter Tryz.func114, Tryz.ntmps114
    go_wp2
    go_ret
    exact ⟨by rw [HB.out]; first | rfl | simp, HE1.out⟩
  ·have hs1 := str_nonempty hs0
   have hs2 : s.toList.isEmpty = false := by simpa using hs1
   have HB := hid (show xs = false from by rw [← HXS.out, V.snd]; simp [plainB, V.kind, V.n, V.s, V.l, V.o, hs2])
   obtain ⟨q0, q1, q2, q3, q4⟩ := blk5 HB1.out
   go_enter Tryz.func114, Tryz.ntmps114
   go_wp2
   go_ret
   exact ⟨by rw [HB.out]; first | rfl | simp, HE1.out⟩
 ·have hkX : ∀ j : Nat, j ≤ 5 → ((k.toNat : Int) == (j : Int)) = false := fun j hj => by simp; omega
  have hkY : (5 : Int) < k.toNat := by omega
  have hne : ∀ j : UInt8, j.toNat ≤ 5 → k ≠ j := fun j hj e => by subst e; omega
  have HB := hid (show xs = false from by
   rw [← HXS.out, V.snd]
   have : plainB (.mk k n s l o) = false := by
    simp [plainB, V.kind, hne 0 (by decide), hne 1 (by decide), hne 2 (by decide), hne 3 (by decide), hne 4 (by decide), hne 5 (by decide)]
   rw [this]; rfl)
  clear hkX hne
  obtain ⟨q0, q1, q2, q3, q4⟩ := blk5 HB1.out
  go_enter Tryz.func114, Tryz.ntmps114
  go_wp2
  go_ret
  exact ⟨by rw [HB.out]; first | rfl | simp, HE1.out⟩
end Go.Proofs.YtihaliffcobacaaGreatDoor
