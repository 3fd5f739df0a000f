/- proj.Within of an entry that creates an object. -/
import Derived.Test.YtggkidnlmaindaaDoorProjL
set_option linter.unusedSimpArgs false
set_option linter.unusedVariables false
namespace Go.Proofs.YtggkidnlmaindaaDoor
open Go.RowKit
set_option linter.unusedVariables false

set_option maxHeartbeats 1600000 in
theorem within_create (w : World) (S S2 : BS) (v : V) (lv ov fv : Value) (fs : List ByteArray) (hv : VAt w S (.agg #[U8 v.kind, .int .i64 v.n, .string v.s, lv, ov]) v) (hk : v.kind = 5) (hs : Sl EStr w S2 fv fs) :
    Calls Tryd.prog 22 #[.agg #[.int .u8 1, .int .u32 0, .int .u32 0, .int .u8 5, .int .i64 v.n, .string v.s, lv, ov, .slice none 0 0], fv] w fun e w' => e = .returned (.bool (!v.o.any (goes fs))) ∧ Ext w w' := by
  obtain ⟨lv', ov', e, hl, ho⟩ := hv
  simp at e
  obtain ⟨rfl, rfl⟩ := e
  obtain ⟨A, c, rfl, hlc, hcm⟩ := hl.shape
  obtain ⟨A', c', rfl, hlc', hcm'⟩ := ho.shape
  obtain ⟨B, d, rfl, _, _⟩ := hs.shape
  obtain ⟨W0, hW0⟩ : ∃ W0, (w.alloc (.cells #[.int .u8 1, .int .u32 0, .int .u32 0, .int .u8 5, .int .i64 v.n, .string v.s, .slice A v.l.length c, .slice A' v.o.length c', .slice none 0 0] 45)).alloc (.cells #[.slice B fs.length d] 23) = W0 := ⟨_, rfl⟩
  have hE0 : Ext w W0 := by rw [← hW0]; exact ((Keep.refl _ _).alloc _).alloc _
  have hb0 : Blk W0 w.heap.size 45 #[.int .u8 1, .int .u32 0, .int .u32 0, .int .u8 5, .int .i64 v.n, .string v.s, .slice A v.l.length c, .slice A' v.o.length c', .slice none 0 0] := by rw [← hW0]; exact (Blk.new _ _ _).alloc _
  have hb1 : Blk W0 (w.heap.size + 1) 23 #[.slice B fs.length d] := by
    have := Blk.new (w.alloc (.cells #[.int .u8 1, .int .u32 0, .int .u32 0, .int .u8 5, .int .i64 v.n, .string v.s, .slice A v.l.length c, .slice A' v.o.length c', .slice none 0 0] 45)) 23 #[.slice B fs.length d]
    rw [World.size_alloc] at this
    rw [← hW0]; exact this
  have HO := hid (ho.ext EField.ok hE0)
  have HS := hid (hs.ext EStr.ok hE0)
  have HE0 := hid hE0
  have q0 := hb0.cell 0
  have q3 := hb0.cell 3
  have q7 := hb0.cell 7
  have f0 := hb1.cell 0
  simp only [List.getElem?_toArray, List.getElem?_cons_succ, List.getElem?_cons_zero] at q0 q3 q7 f0
  have HW := hid (wcontains_ok W0 S _ v.o (w.heap.size + 1) fs _ S2 HO.out f0 HS.out)
  clear hl ho hs hE0 hb0 hb1
  go_enter Tryd.func22, Tryd.ntmps22
  go_wp2_with fail
  refine HW.out.mono ?_
  rintro e w2 ⟨rfl, hE⟩
  have HE := hid (HE0.out.ext hE)
  obtain ⟨r, hr⟩ : ∃ r, v.o.any (goes fs) = r := ⟨_, rfl⟩
  rw [hr]
  have HR := hid hr
  clear hr
  clear hE hW0 q0 q3 q7 f0
  go_wp2
  go_ret
  exact ⟨by rw [HR.out]; first | rfl | (cases r <;> rfl), HE.out⟩
end Go.Proofs.YtggkidnlmaindaaDoor
