/- The law's 'With': an object's fields, and one more. -/
import Derived.Test.YtggkidnlmaindaaDoorRefField
import Derived.Test.YtggkidnlmaindaaDoorCuts
set_option linter.unusedSimpArgs false
set_option linter.unusedVariables false
namespace Go.Proofs.YtggkidnlmaindaaDoor
open Go.RowKit
set_option linter.unusedVariables false

/-- Fields, and one more. -/
def withL (o : List F) (key : ByteArray) (x : V) : List F := o.take (fieldL o key) ++ F.mk key x :: o.drop (if fieldIs o key = true then fieldL o key + 1 else fieldL o key)
theorem own_orF {w : World} {base : Nat} {S : BS} {v : Value} {xs : List F} (h : Own EField w base TFIELD (fun k => S k ∨ S k) v xs) : Own EField w base TFIELD S v xs := h.more EField.ok fun _ _ h => h.elim id id
theorem blk_cells6 {w : World} {b : Nat} {T : TypeId} {a0 a1 a2 a3 a4 : Value} (h : Blk w b T #[a0, a1, a2, a3, a4]) : w.cell? ⟨b, 0, none⟩ = some a0 ∧ w.cell? ⟨b, 1, none⟩ = some a1 ∧ w.cell? ⟨b, 2, none⟩ = some a2 ∧ w.cell? ⟨b, 3, none⟩ = some a3 ∧ w.cell? ⟨b, 4, none⟩ = some a4 :=
  ⟨h.cell 0, h.cell 1, h.cell 2, h.cell 3, h.cell 4⟩

set_option maxHeartbeats 3200000 in
theorem lawwith_ok (xs : List F) (key : ByteArray) (x : V) (S : BS) (A : Option Addr) (c : Nat) (u : Value) (w : World) (hl : Sl EField w S (.slice A xs.length c) xs) (hx : VAt w S u x) (hn : xs.length ≤ 100000) :
    Calls Tryd.prog 76 #[.slice A xs.length c, .string key, u] w fun e w' => ∃ v, e = .returned v ∧ Own EField w' w.heap.size TFIELD (fun k => S k ∧ k < w.heap.size) v (withL xs key x) ∧ Ext w w' := by
  have hl := hl.more EField.ok (S' := fun k => S k ∧ k < w.heap.size) fun k h1 h2 => ⟨h2, h1⟩
  have hx := hx.more (S' := fun k => S k ∧ k < w.heap.size) fun k h1 h2 => ⟨h2, h1⟩
  obtain ⟨lv, ov, rfl, hxl, hxo⟩ := hx
  obtain ⟨B1, b1, rfl, _⟩ := hxl.shape
  obtain ⟨B2, b2, rfl, _⟩ := hxo.shape
  have hx : EVal.rd w (fun k => S k ∧ k < w.heap.size) [U8 x.kind, .int .i64 x.n, .string x.s, .slice B1 x.l.length b1, .slice B2 x.o.length b2] x := VAt.rd ⟨_, _, rfl, hxl, hxo⟩
  have hkl := fieldL_le xs key
  obtain ⟨ki, hki⟩ : ∃ ki, ki = if fieldIs xs key = true then fieldL xs key + 1 else fieldL xs key := ⟨_, rfl⟩
  have hkin : ki ≤ xs.length := by
    rw [hki]
    by_cases h : fieldIs xs key = true
    · rw [if_pos h]; have := fieldIs_lt h; omega
    · rw [if_neg h]; omega
  have hW : withL xs key x = xs.take (fieldL xs key) ++ F.mk key x :: xs.drop ki := by unfold withL; rw [hki]
  have hfv : ∀ w1, Ext w w1 → Calls Tryd.prog 85 #[.agg #[.int .u8 0, .int .i64 0, .string ⟨#[]⟩, .slice none 0 0, .slice A xs.length c], .string key] w1 fun e w' => e = .returned (.tuple #[.int .i64 (fieldL xs key : Int), .bool (fieldIs xs key)]) ∧ Ext w1 w' :=
    fun w1 h => rfield_val w1 (fun k => S k ∧ k < w.heap.size) (.agg #[.int .u8 0, .int .i64 0, .string ⟨#[]⟩, .slice none 0 0, .slice A xs.length c]) (.mk 0 0 ⟨#[]⟩ [] xs) key ⟨_, _, rfl, Sl.nil _ _, hl.ext EField.ok h⟩
  have HFV := hid hfv
  have HKI := hid hki
  have HW := hid hW
  clear hki hW hfv
  generalize fieldIs xs key = isk at *
  generalize fieldL xs key = k at *
  obtain ⟨r1, f1⟩ := front_fact (P := Tryd.prog) EField.ok ty_field hl (b := (k : Int)) rfl hkl
  obtain ⟨A2, r2, f2⟩ := tail_fact (P := Tryd.prog) EField.ok ty_field hl (a := (ki : Int)) (lo := ki) rfl hkin
  have hE0 : Ext w (w.alloc (.cells #[U8 x.kind, .int .i64 x.n, .string x.s, .slice B1 x.l.length b1, .slice B2 x.o.length b2] TVAL)) := (Keep.refl _ _).alloc _
  have hb0 : Blk (w.alloc (.cells #[U8 x.kind, .int .i64 x.n, .string x.s, .slice B1 x.l.length b1, .slice B2 x.o.length b2] TVAL)) w.heap.size TVAL #[U8 x.kind, .int .i64 x.n, .string x.s, .slice B1 x.l.length b1, .slice B2 x.o.length b2] := Blk.new _ _ _
  have HR2x := hid (fun (a : Int) (ha : a = (ki : Int)) (w' : World) => (by rw [ha]; exact r2 w' : (Instr.sliceAt 33 (.slice A xs.length c) (some (.int .i64 a)) none none).run Tryd.prog w' = .ok (.slice A2 (xs.length - ki) (c - ki)) w'))
  clear r2
  have HX := hid hx
  have HF1 := hid f1
  have HF2 := hid f2
  have HE0 := hid hE0
  have HB0 := hid hb0
  have HN := hid hn
  have ht1 : (xs.take k).length = k := by rw [List.length_take]; omega
  have ht2 : (xs.drop ki).length = xs.length - ki := by rw [List.length_drop]
  have hk9 : k ≤ 100000 := by omega
  have hki9 : ki ≤ 100000 := by omega
  generalize xs.take k = ta at *
  generalize xs.drop ki = tb at *
  have HT1 := hid ht1
  have HT2 := hid ht2
  have HKN := hid (And.intro hkl hkin)
  have q0 := (blk_cells6 hb0).1
  have q1 := (blk_cells6 hb0).2.1
  have q2 := (blk_cells6 hb0).2.2.1
  have q3 := (blk_cells6 hb0).2.2.2.1
  have q4 := (blk_cells6 hb0).2.2.2.2
  clear hl hx f1 f2 hn ht1 ht2 hE0 hb0 hxl hxo
  go_enter Tryd.func76, Tryd.ntmps76
  go_wp2_with fail
  generalize w.alloc (.cells #[U8 x.kind, .int .i64 x.n, .string x.s, .slice B1 x.l.length b1, .slice B2 x.o.length b2] TVAL) = w0 at *
  refine (HFV.out w0 HE0.out).mono ?_
  rintro e w1 ⟨rfl, hE1⟩
  clear q0 q1 q2 q3 q4 HFV
  have HK1 := hid (HE0.out.ext hE1)
  have HB1 := hid (HB0.out.keep hE1 id)
  have hw1 : w.heap.size ≤ w1.heap.size := HK1.out.size
  obtain ⟨d1, hr1, hd1⟩ := HF1.out.ext EField.ok HK1.out
  obtain ⟨d2, hr2, hd2⟩ := HF2.out.ext EField.ok HK1.out
  have HR1 := hid hr1
  have HD1 := hid hd1
  have HR2 := hid hr2
  have HD2 := hid hd2
  have HX1 := hid (EVal.ok.keep HX.out HK1.out fun _ _ h => h)
  clear hr1 hd1 hr2 hd2 hE1
  go_wp2_with (at_builtin; refine wpList_own_append2 (S := fun k => S k ∧ k < w.heap.size) (ys := ta) _ rfl (.tmp 17) (.tmp 20) EField.ok ty_field rfl rfl rfl (Own.nil _ w.heap.size _ _) HR1.out HD1.out ?c1 ?c2 ?c3 ?c4 ?_)
  case c1 =>
    intro g hg
    have hg : (Value.slice none 0 0).ownBlock = some g := hg
    cases hg
  case c2 => rw [HT1.out]; simp; omega
  case c3 => rw [HT1.out]; simp [maxLen]; omega
  case c4 => exact hw1
  intro v1 w2 hown hk _
  obtain ⟨A3, c3, rfl, hl3, hc3⟩ := hown.shape
  have hk1 : Ext w1 w2 := hk.mono fun k _ e => by
    have e : (Value.slice none 0 0).ownBlock = some k := e
    cases e
  have HO1 : Hid (Own EField w2 w.heap.size TFIELD (fun k => S k ∧ k < w.heap.size) (.slice A3 ta.length c3) ta) := hid (by first | exact hown | exact own_orF hown)
  have HK2 := hid (HK1.out.ext hk1)
  have HRb := hid (HR2.out.keep hk1 fun _ _ => id)
  have HDb := hid (HD2.out.keep EField.ok hk1 fun _ _ => id)
  have HXb := hid (EVal.ok.keep HX1.out hk1 fun _ _ h => h)
  have hb2 := HB1.out.keep hk1 id
  have q0 := (blk_cells6 hb2).1
  have q1 := (blk_cells6 hb2).2.1
  have q2 := (blk_cells6 hb2).2.2.1
  have q3 := (blk_cells6 hb2).2.2.2.1
  have q4 := (blk_cells6 hb2).2.2.2.2
  have hw2 : w.heap.size ≤ w2.heap.size := HK2.out.size
  have HS1 := hid (show w.heap.size < w2.heap.size from hb2.lt)
  clear hown hk hk1 hb2 HR1 HD1 HR2 HD2 HX1 HB1 HX
  have HOb := hid (HO1.out.ext EField.ok ((Keep.refl (fun _ => False) w2).alloc (.cells #[.string key, U8 x.kind, .int .i64 x.n, .string x.s, .slice B1 x.l.length b1, .slice B2 x.o.length b2] TFIELD)))
  have HRx := hid (RowS.new (w := w2) (t := TFIELD) (sz := 6) (n := 1) (cs := [.string key, U8 x.kind, .int .i64 x.n, .string x.s, .slice B1 x.l.length b1, .slice B2 x.o.length b2]) rfl (by simp [maxLen]) (0, 0))
  have HDx := hid (Cells.single (E := EField) (x := F.mk key x) (rdF_iff.2 ⟨_, rfl, EVal.ok.keep HXb.out ((Keep.refl (fun _ => False) w2).alloc (.cells #[.string key, U8 x.kind, .int .i64 x.n, .string x.s, .slice B1 x.l.length b1, .slice B2 x.o.length b2] TFIELD)) fun _ _ h => h⟩))
  go_wp2_with (at_builtin; refine wpList_own_append2 (ys := [F.mk key x]) _ rfl (.tmp 22) (.tmp 26) EField.ok ty_field rfl rfl rfl HOb.out HRx.out HDx.out ?d1 ?d2 ?d3 ?d4 ?_)
  case d1 => intro g hg; have := HO1.out.lt hg; exact ⟨fun h => by omega, fun h => by omega⟩
  case d2 => have := HT1.out; simp only [List.length_singleton]; omega
  case d3 => have := HT1.out; simp only [List.length_singleton, maxLen]; omega
  case d4 => rw [World.size_alloc]; omega
  intro v2 w3 hown hk _
  obtain ⟨A4, c4, rfl, hl4, hc4⟩ := hown.shape
  have hk2 : Keep (fun k => (Value.slice A3 ta.length c3).ownBlock = some k) w2 w3 := (Keep.alloc (Keep.refl (fun k => (Value.slice A3 ta.length c3).ownBlock = some k) w2) _).trans hk fun k _ e => e
  have HO2 : Hid (Own EField w3 w.heap.size TFIELD (fun k => S k ∧ k < w.heap.size) (.slice A4 (ta ++ [F.mk key x]).length c4) (ta ++ [F.mk key x])) := hid (by first | exact hown | exact own_orF hown)
  have hz2 := hk2.size
  have HK3 := hid (show Ext w w3 from HK2.out.trans hk2 fun k hk e => by have := (HO1.out.lt e).1; omega)
  have HRc := hid (HRb.out.keep hk2 fun k hs e => by have := (HO1.out.lt e).1; have := hs.2; omega)
  have HDc := hid (HDb.out.keep EField.ok hk2 fun k hs e => by have := (HO1.out.lt e).1; have := hs.2; omega)
  clear hown hk hk2 HOb HRx HDx HXb HRb HDb HO1 q0 q1 q2 q3 q4
  have fin : ∀ (v3 : Value) (w4 : World), Own EField w4 w.heap.size TFIELD (fun k => S k ∧ k < w.heap.size) v3 (ta ++ F.mk key x :: tb) → Keep (fun k => (Value.slice A4 (ta.length + 1) c4).ownBlock = some k) w3 w4 → Own EField w4 w.heap.size TFIELD (fun k => S k ∧ k < w.heap.size) v3 (withL xs key x) ∧ Ext w w4 := by
    intro v3 w4 h1 h2
    refine ⟨?_, HK3.out.trans h2 fun k hk e => by
      have e' : (Value.slice A4 (ta ++ [F.mk key x]).length c4).ownBlock = some k := by rw [List.length_append]; exact e
      have := (HO2.out.lt e').1; omega⟩
    rw [HW.out]
    exact h1
  have HFIN := hid fin
  clear fin
  have side1 : ∀ g, (Value.slice A4 (ta ++ [F.mk key x]).length c4).ownBlock = some g → ¬ (S g ∧ g < w.heap.size) ∧ ¬ (S g ∧ g < w.heap.size) := fun g hg => by have := HO2.out.lt hg; exact ⟨fun h => by omega, fun h => by omega⟩
  have HSI := hid side1
  clear side1
  have side2 : (ta ++ [F.mk key x]).length + tb.length ≤ 200002 := by have := HT1.out; have := HT2.out; have := HN.out; have := HKN.out; rw [List.length_append, List.length_singleton]; omega
  have HSJ := hid side2
  clear side2
  have hki := HKI.out
  clear HKI HN HKN
  cases isk with
  | true =>
    simp only [if_true] at hki
    have r2 := HR2x.out ((k : Int) + 1) (by omega)
    clear HR2x hki
    go_wp2_with (at_builtin; refine wpList_own_append2 (ys := tb) _ rfl (.tmp 31) (.tmp 34) EField.ok ty_field rfl rfl rfl HO2.out HRc.out HDc.out ?e1 ?e2 ?e3 ?e4 ?_)
    case e1 => exact HSI.out
    case e2 => have := HSJ.out; omega
    case e3 => have := HSJ.out; simp only [maxLen]; omega
    case e4 => omega
    intro v3 w4 hown hk _
    obtain ⟨A5, c5, rfl, hl5, hc5⟩ := hown.shape
    have HR := hid (HFIN.out _ _ hown hk)
    clear hown hk
    go_wp2
    go_ret
    exact ⟨_, rfl, HR.out.1, HR.out.2⟩
  | false =>
    simp only [Bool.false_eq_true, if_false] at hki
    have r2 := HR2x.out (k : Int) (by omega)
    clear HR2x hki
    go_wp2_with (at_builtin; refine wpList_own_append2 (ys := tb) _ rfl (.tmp 31) (.tmp 34) EField.ok ty_field rfl rfl rfl HO2.out HRc.out HDc.out ?e1 ?e2 ?e3 ?e4 ?_)
    case e1 => exact HSI.out
    case e2 => have := HSJ.out; omega
    case e3 => have := HSJ.out; simp only [maxLen]; omega
    case e4 => omega
    intro v3 w4 hown hk _
    obtain ⟨A5, c5, rfl, hl5, hc5⟩ := hown.shape
    have HR := hid (HFIN.out _ _ hown hk)
    clear hown hk
    go_wp2
    go_ret
    exact ⟨_, rfl, HR.out.1, HR.out.2⟩
end Go.Proofs.YtggkidnlmaindaaDoor
