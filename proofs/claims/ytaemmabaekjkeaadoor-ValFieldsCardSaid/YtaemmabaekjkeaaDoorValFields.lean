/- Field of any value and key is what the chapter says: the walk. -/
import Derived.Test.YtaemmabaekjkeaaDoorLawKnown1
import Derived.Test.YtaemmabaekjkeaaDoorLawHeavy1
import Derived.Test.YtaemmabaekjkeaaDoorLawRaw
import Derived.Test.YtaemmabaekjkeaaDoorRefField
import Derived.Test.YtaemmabaekjkeaaDoorPathA
set_option linter.unusedSimpArgs false
set_option linter.unusedVariables false
namespace Go.Proofs.YtaemmabaekjkeaaDoor
open Go.RowKit
set_option linter.unusedVariables false
set_option maxRecDepth 20000 in
set_option maxHeartbeats 12800000 in
theorem fields_walk (lv : Value) (ts : List Tk) (key : ByteArray) (w : World) (hts : Sl ETok w (fun _ => True) lv ts) (hv : ValAny w) :
    Calls Tryd.prog 6 #[lv, .string key] w fun e w' => e = .returned (.bool true) ∧ Ext w w' := by
  obtain ⟨Ats, cts, rfl, _, _⟩ := hts.shape
  have HL := hid hts
  clear hts
  have HVA := hid hv
  clear hv
  go_enter Tryd.func6, Tryd.ntmps6
  have hend : ∀ wx, Ext w wx → Calls Tryd.prog 10 #[] wx fun e w' => e = .returned (.bool true) ∧ Ext w w' := fun wx h => (known1_ok w wx HVA.out h).mono fun e w' h2 => ⟨h2.1, h.ext h2.2⟩
  have HEND := hid hend
  clear hend
  have HEW := hid (Keep.refl (fun _ => False) w)
  go_wp2_with fail
  refine (heavy1_ok _ _ _ _ HL.out).mono ?_
  rintro e w1 ⟨bw1, rfl, hb, hE⟩
  clear hb
  replace HL := hid (HL.out.ext ETok.ok hE)
  replace HEW := hid (HEW.out.ext hE)
  clear hE
  cases bw1 with
  | true =>
    go_wp2_with fail
    refine (HEND.out _ HEW.out).mono ?_
    rintro e w2 ⟨rfl, hz⟩
    have HZ := hid hz
    clear hz
    go_wp2
    go_ret
    exact ⟨rfl, HZ.out⟩
  | false =>
    by_cases hkl : (300 : Int) < key.size
    · skip
      go_wp2_with fail
      refine (HEND.out _ HEW.out).mono ?_
      rintro e w3 ⟨rfl, hz⟩
      have HZ := hid hz
      clear hz
      go_wp2
      go_ret
      exact ⟨rfl, HZ.out⟩
    · skip
      go_wp2_with fail
      refine (known1_ok w _ HVA.out HEW.out).mono ?_
      rintro e w4 ⟨rfl, hE⟩
      replace HL := hid (HL.out.ext ETok.ok hE)
      replace HEW := hid (HEW.out.ext hE)
      clear hE HEND
      go_wp2_with fail
      refine (rawall2_ok _ _ _ _ HL.out).mono ?_
      rintro e w5 ⟨u, x, rfl, hsz, ⟨lx, ox, rfl, hlx, hox⟩, hE⟩
      obtain ⟨Ax1, cx1, rfl, _⟩ := hlx.shape
      obtain ⟨Ax2, cx2, rfl, _⟩ := hox.shape
      have HSx := hid hsz
      clear hsz
      have hA : Ext w5 (w5.alloc (.cells #[U8 x.kind, .int .i64 x.n, .string x.s, .slice Ax1 x.l.length cx1, .slice Ax2 x.o.length cx2] TVAL)) := (Keep.refl _ _).alloc _
      replace HL := hid (HL.out.ext ETok.ok (hE.ext hA))
      replace HEW := hid (HEW.out.ext (hE.ext hA))
      have HBx := hid (Blk.new w5 TVAL #[U8 x.kind, .int .i64 x.n, .string x.s, .slice Ax1 x.l.length cx1, .slice Ax2 x.o.length cx2])
      have HVx := hid (show VAt (w5.alloc (.cells #[U8 x.kind, .int .i64 x.n, .string x.s, .slice Ax1 x.l.length cx1, .slice Ax2 x.o.length cx2] TVAL)) (fun _ => True) (.agg #[U8 x.kind, .int .i64 x.n, .string x.s, .slice Ax1 x.l.length cx1, .slice Ax2 x.o.length cx2]) x from VAt.ext (VAt.more ⟨_, _, rfl, hlx, hox⟩ fun _ _ _ => trivial) hA)
      clear hA
      clear hlx hox hE
      obtain ⟨qx0, qx1, qx2, qx3, qx4⟩ := blk5 HBx.out
      go_wp2_with fail
      generalize w5.alloc (.cells #[U8 x.kind, .int .i64 x.n, .string x.s, .slice Ax1 x.l.length cx1, .slice Ax2 x.o.length cx2] TVAL) = w6 at *
      refine (field_val _ _ _ x key HVx.out).mono ?_
      rintro e w7 ⟨rfl, hE⟩
      replace HL := hid (HL.out.ext ETok.ok hE)
      replace HEW := hid (HEW.out.ext hE)
      replace HBx := hid (HBx.out.keep hE id)
      replace HVx := hid (HVx.out.ext hE)
      clear hE
      clear qx0 qx1 qx2 qx3 qx4
      obtain ⟨qx0, qx1, qx2, qx3, qx4⟩ := blk5 HBx.out
      go_wp2_with fail
      refine (rfield_val _ _ _ x key HVx.out).mono ?_
      rintro e w8 ⟨rfl, hE⟩
      replace HL := hid (HL.out.ext ETok.ok hE)
      replace HEW := hid (HEW.out.ext hE)
      replace HBx := hid (HBx.out.keep hE id)
      replace HVx := hid (HVx.out.ext hE)
      clear hE
      clear qx0 qx1 qx2 qx3 qx4
      generalize fieldL x.o key = fl at *
      generalize fieldIs x.o key = fi at *
      have h1 : ((fl : Int) == fl) = true := by simp
      have h2 : (fi == fi) = true := by simp
      go_wp2
      go_ret
      exact ⟨by first | rfl | simp, HEW.out⟩
theorem fields_lift {Q0 : Prop} (lv : Value) (ts : List Tk) (key : ByteArray) (w : World) (h0 : Sl ETok w (fun k => k < w.heap.size) lv ts) (q0 : Q0) (q1 : key.size ≤ reachBytes) (hv : ValAny w) :
    Calls Tryd.prog 6 #[lv, .string key] w fun e w' => e = .returned (.bool true) ∧ Below w.heap.size w w' :=
  (fields_walk lv ts key w (h0.more ETok.ok fun _ _ _ => trivial)  hv).mono fun e w' h => ⟨h.1, h.2.toBelow⟩
end Go.Proofs.YtaemmabaekjkeaaDoor
