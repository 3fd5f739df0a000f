/- The reference of chapter 05: without, with. -/
import Derived.Test.YtimhfkllamimeaaSeqT
import Derived.Test.YtimhfkllamimeaaCuts
set_option linter.unusedSimpArgs false
set_option linter.unusedVariables false
namespace Go.Proofs.Ytimhfkllamimeaa
open Go.RowKit

theorem own_or {w : World} {base : Nat} {S : BS} {v : Value} {xs : List V} (h : Own EVal w base TVAL (fun k => S k ∨ S k) v xs) : Own EVal w base TVAL S v xs := h.more EVal.ok fun _ _ h => h.elim id id

set_option maxHeartbeats 3200000 in
theorem without_ok (xs : List V) (S : BS) (A : Option Addr) (n c i : Nat) (w : World) (hl : Sl EVal w S (.slice A n c) xs) (hi : i < xs.length) (hn : xs.length ≤ 100000) :
    Calls Try.prog 36 #[.slice A n c, .int .i64 i] w fun e w' => ∃ v, e = .returned v ∧ Own EVal w' w.heap.size TVAL (fun k => S k ∧ k < w.heap.size) v (xs.eraseIdx i) ∧ Ext w w' := by
  have hl := hl.more EVal.ok (S' := fun k => S k ∧ k < w.heap.size) fun k h1 h2 => ⟨h2, h1⟩
  have hI : IntKind.i64.wrap ((i : Int) + 1) = ((i + 1 : Nat) : Int) := by rw [IntWalk.i64_in _ (by omega)]; omega
  obtain ⟨r1, f1⟩ := front_fact (P := Try.prog) EVal.ok ty_val hl (b := (i : Int)) rfl (by omega)
  obtain ⟨A2, r2, f2⟩ := tail_fact (P := Try.prog) EVal.ok ty_val hl (a := (i : Int) + 1) (lo := i + 1) (by omega) (by omega)
  have HF1 := hid f1
  have HF2 := hid f2
  have HN := hid hn
  have HI := hid hi
  have hi9 : i < 100000 := by omega
  have ht1 : (xs.take i).length = i := by rw [List.length_take]; omega
  have ht2 : (xs.drop (i + 1)).length = xs.length - (i + 1) := by rw [List.length_drop]
  rw [List.eraseIdx_eq_take_drop_succ]
  generalize xs.take i = ta at *
  generalize xs.drop (i + 1) = tb at *
  have HT1 := hid ht1
  have HT2 := hid ht2
  clear hl f1 f2 hi hn ht1 ht2
  go_enter Try.func36, Try.ntmps36
  obtain ⟨d1, hr1, hd1⟩ := HF1.out
  obtain ⟨d2, hr2, hd2⟩ := HF2.out
  have HR1 := hid hr1
  have HD1 := hid hd1
  have HR2 := hid hr2
  have HD2 := hid hd2
  clear hr1 hd1 hr2 hd2
  go_wp2_with (at_builtin; refine wpList_own_append2 (S := fun k => S k ∧ k < w.heap.size) (ys := ta) _ rfl (.tmp 6) (.tmp 9) EVal.ok ty_val rfl rfl rfl (Own.nil w w.heap.size _ _) HR1.out HD1.out ?c1 ?c2 ?c3 ?c4 ?_)
  case c1 =>
    intro g hg
    have hg : (Value.slice none 0 0).ownBlock = some g := hg
    cases hg
  case c2 => rw [HT1.out]; simp; omega
  case c3 => rw [HT1.out]; simp [maxLen]; omega
  case c4 => exact Nat.le_refl _
  intro v1 w1 hown hk _
  obtain ⟨A3, c3, rfl, hl3, hc3⟩ := hown.shape
  have hk1 : Ext w w1 := hk.mono fun k _ e => by
    have e : (Value.slice none 0 0).ownBlock = some k := e
    cases e
  have HO1 : Hid (Own EVal w1 w.heap.size TVAL (fun k => S k ∧ k < w.heap.size) (.slice A3 ta.length c3) ta) := hid (by first | exact hown | exact own_or hown)
  have HK1 := hid hk1
  have HRb := hid (HR2.out.keep hk1 fun _ _ => id)
  have HDb := hid (HD2.out.keep EVal.ok hk1 fun _ _ => id)
  clear hown hk hk1
  go_wp2_with (at_builtin; refine wpList_own_append2 (ys := tb) _ rfl (.tmp 11) (.tmp 15) EVal.ok ty_val rfl rfl rfl HO1.out HRb.out HDb.out ?d1 ?d2 ?d3 ?d4 ?_)
  case d1 => intro g hg; have := HO1.out.lt hg; exact ⟨fun h => by omega, fun h => by omega⟩
  case d2 => have := HT1.out; have := HT2.out; have := HN.out; have := HI.out; (try simp only [List.nil_append]); omega
  case d3 => have := HT1.out; have := HT2.out; have := HN.out; have := HI.out; (try simp only [List.nil_append]); simp only [maxLen]; omega
  case d4 => exact HK1.out.size
  intro v2 w2 hown hk _
  obtain ⟨A4, c4, rfl, hl4, hc4⟩ := hown.shape
  have HO2 : Hid (Own EVal w2 w.heap.size TVAL (fun k => S k ∧ k < w.heap.size) (.slice A4 (ta ++ tb).length c4) (ta ++ tb)) := hid (by first | exact hown | exact own_or hown)
  have HK2 := hid (HK1.out.trans hk fun k hk e => by have := (HO1.out.lt e).1; omega)
  clear hown hk
  go_wp2
  go_ret
  exact ⟨_, rfl, HO2.out, HK2.out⟩

set_option maxHeartbeats 3200000 in
theorem with_ok (xs : List V) (x : V) (S : BS) (A : Option Addr) (n c i : Nat) (y0 y1 y2 y3 y4 : Value) (w : World) (hl : Sl EVal w S (.slice A n c) xs) (hx : EVal.rd w S [y0, y1, y2, y3, y4] x) (hi : i ≤ xs.length) (hn : xs.length ≤ 100000) :
    Calls Try.prog 35 #[.slice A n c, .int .i64 i, .agg #[y0, y1, y2, y3, y4]] w fun e w' => ∃ v, e = .returned v ∧ Own EVal w' w.heap.size TVAL (fun k => S k ∧ k < w.heap.size) v (xs.take i ++ x :: xs.drop i) ∧ Ext w w' := by
  have hl := hl.more EVal.ok (S' := fun k => S k ∧ k < w.heap.size) fun k h1 h2 => ⟨h2, h1⟩
  have hx := EVal.ok.more hx (S' := fun k => S k ∧ k < w.heap.size) fun k h1 h2 => ⟨h2, h1⟩
  obtain ⟨B1, b1, B2, b2, hy⟩ : ∃ B1 b1 B2 b2, (#[y0, y1, y2, y3, y4] : Array Value) = #[U8 x.kind, .int .i64 x.n, .string x.s, .slice B1 x.l.length b1, .slice B2 x.o.length b2] := by
    obtain ⟨B1, _, b1, B2, _, b2, e, _⟩ := EVal_cells hx
    exact ⟨B1, b1, B2, b2, by rw [← Array.toList_inj]; exact e⟩
  obtain ⟨rfl, rfl, rfl, rfl, rfl⟩ : y0 = U8 x.kind ∧ y1 = .int .i64 x.n ∧ y2 = .string x.s ∧ y3 = .slice B1 x.l.length b1 ∧ y4 = .slice B2 x.o.length b2 := by simpa using hy
  obtain ⟨r1, f1⟩ := front_fact (P := Try.prog) EVal.ok ty_val hl (b := (i : Int)) rfl (by omega)
  obtain ⟨A2, r2, f2⟩ := tail_fact (P := Try.prog) EVal.ok ty_val hl (a := (i : Int)) (lo := i) (by omega) (by omega)
  have hE0 : Ext w (w.alloc (.cells #[U8 x.kind, .int .i64 x.n, .string x.s, .slice B1 x.l.length b1, .slice B2 x.o.length b2] TVAL)) := (Keep.refl _ _).alloc _
  have hb0 : Blk (w.alloc (.cells #[U8 x.kind, .int .i64 x.n, .string x.s, .slice B1 x.l.length b1, .slice B2 x.o.length b2] TVAL)) w.heap.size TVAL #[U8 x.kind, .int .i64 x.n, .string x.s, .slice B1 x.l.length b1, .slice B2 x.o.length b2] := Blk.new _ _ _
  have HX := hid (EVal.ok.keep hx hE0 fun _ _ h => h)
  have HF1 := hid (f1.ext EVal.ok hE0)
  have HF2 := hid (f2.ext EVal.ok hE0)
  have HE0 := hid hE0
  have HB0 := hid hb0
  have HN := hid hn
  have HI := hid hi
  have hi9 : i ≤ 100000 := by omega
  have ht1 : (xs.take i).length = i := by rw [List.length_take]; omega
  have ht2 : (xs.drop i).length = xs.length - i := by rw [List.length_drop]
  generalize xs.take i = ta at *
  generalize xs.drop i = tb at *
  have HT1 := hid ht1
  have HT2 := hid ht2
  clear hl hx f1 f2 hi hn ht1 ht2 hy hE0 hb0
  go_enter Try.func35, Try.ntmps35
  obtain ⟨d1, hr1, hd1⟩ := HF1.out
  obtain ⟨d2, hr2, hd2⟩ := HF2.out
  have HR1 := hid hr1
  have HD1 := hid hd1
  have HR2 := hid hr2
  have HD2 := hid hd2
  clear hr1 hd1 hr2 hd2
  go_wp2_with (at_builtin; refine wpList_own_append2 (S := fun k => S k ∧ k < w.heap.size) (ys := ta) _ rfl (.tmp 8) (.tmp 11) EVal.ok ty_val rfl rfl rfl (Own.nil _ w.heap.size _ _) HR1.out HD1.out ?c1 ?c2 ?c3 ?c4 ?_)
  case c1 =>
    intro g hg
    have hg : (Value.slice none 0 0).ownBlock = some g := hg
    cases hg
  case c2 => rw [HT1.out]; simp; omega
  case c3 => rw [HT1.out]; simp [maxLen]; omega
  case c4 => exact HE0.out.size
  intro v1 w1 hown hk _
  obtain ⟨A3, c3, rfl, hl3, hc3⟩ := hown.shape
  have hk1 : Ext (w.alloc (.cells #[U8 x.kind, .int .i64 x.n, .string x.s, .slice B1 x.l.length b1, .slice B2 x.o.length b2] TVAL)) w1 := hk.mono fun k _ e => by
    have e : (Value.slice none 0 0).ownBlock = some k := e
    cases e
  have HO1 : Hid (Own EVal w1 w.heap.size TVAL (fun k => S k ∧ k < w.heap.size) (.slice A3 ta.length c3) ta) := hid (by first | exact hown | exact own_or hown)
  have HK1 := hid hk1
  have HRb := hid (HR2.out.keep hk1 fun _ _ => id)
  have HDb := hid (HD2.out.keep EVal.ok hk1 fun _ _ => id)
  have HXb := hid (EVal.ok.keep HX.out hk1 fun _ _ h => h)
  have hb1 := HB0.out.keep hk1 id
  have q0 := hb1.cell 0
  have q1 := hb1.cell 1
  have q2 := hb1.cell 2
  have q3 := hb1.cell 3
  have q4 := hb1.cell 4
  simp at q0 q1 q2 q3 q4
  have hw1 : w.heap.size ≤ w1.heap.size := by have := HE0.out.size; have := hk1.size; omega
  have HS1 := hid (show w.heap.size < w1.heap.size from hb1.lt)
  clear hown hk hk1 hb1
  have HOb := hid (HO1.out.ext EVal.ok ((Keep.refl (fun _ => False) w1).alloc (.cells #[U8 x.kind, .int .i64 x.n, .string x.s, .slice B1 x.l.length b1, .slice B2 x.o.length b2] TVAL)))
  have HRx := hid (RowS.new (w := w1) (t := TVAL) (sz := 5) (n := 1) (cs := [U8 x.kind, .int .i64 x.n, .string x.s, .slice B1 x.l.length b1, .slice B2 x.o.length b2]) rfl (by simp [maxLen]) (0, 0))
  have HDx := hid (Cells.single (EVal.ok.keep HXb.out ((Keep.refl (fun _ => False) w1).alloc (.cells #[U8 x.kind, .int .i64 x.n, .string x.s, .slice B1 x.l.length b1, .slice B2 x.o.length b2] TVAL)) fun _ _ h => h))
  go_wp2_with (at_builtin; refine wpList_own_append2 (ys := [x]) _ rfl (.tmp 13) (.tmp 15) EVal.ok ty_val rfl rfl rfl HOb.out HRx.out HDx.out ?d1 ?d2 ?d3 ?d4 ?_)
  case d1 => intro g hg; have := HO1.out.lt hg; exact ⟨fun h => by omega, fun h => by omega⟩
  case d2 => have := HT1.out; simp only [List.length_singleton]; omega
  case d3 => have := HT1.out; simp only [List.length_singleton, maxLen]; omega
  case d4 => rw [World.size_alloc]; omega
  intro v2 w2 hown hk _
  obtain ⟨A4, c4, rfl, hl4, hc4⟩ := hown.shape
  have hk2 : Keep (fun k => (Value.slice A3 ta.length c3).ownBlock = some k) w1 w2 := (Keep.alloc (Keep.refl (fun k => (Value.slice A3 ta.length c3).ownBlock = some k) w1) _).trans hk fun k _ e => e
  have HO2 : Hid (Own EVal w2 w.heap.size TVAL (fun k => S k ∧ k < w.heap.size) (.slice A4 (ta ++ [x]).length c4) (ta ++ [x])) := hid (by first | exact hown | exact own_or hown)
  have hz2 := hk2.size
  have HK2 := hid (show Ext w w2 from (HE0.out.ext HK1.out).trans hk2 fun k hk e => by have := (HO1.out.lt e).1; omega)
  have HRc := hid (HRb.out.keep hk2 fun k hs e => by have := (HO1.out.lt e).1; have := hs.2; omega)
  have HDc := hid (HDb.out.keep EVal.ok hk2 fun k hs e => by have := (HO1.out.lt e).1; have := hs.2; omega)
  clear hown hk hk2 HOb HRx HDx HXb HRb HDb HO1 q0 q1 q2 q3 q4
  go_wp2_with (at_builtin; refine wpList_own_append2 (ys := tb) _ rfl (.tmp 17) (.tmp 20) EVal.ok ty_val rfl rfl rfl HO2.out HRc.out HDc.out ?e1 ?e2 ?e3 ?e4 ?_)
  case e1 => intro g hg; have := HO2.out.lt hg; exact ⟨fun h => by omega, fun h => by omega⟩
  case e2 => have := HT1.out; have := HT2.out; have := HN.out; have := HI.out; rw [List.length_append, List.length_singleton]; omega
  case e3 => have := HT1.out; have := HT2.out; have := HN.out; have := HI.out; rw [List.length_append, List.length_singleton]; simp only [maxLen]; omega
  case e4 => omega
  intro v3 w3 hown hk _
  obtain ⟨A5, c5, rfl, hl5, hc5⟩ := hown.shape
  have HO3 : Hid (Own EVal w3 w.heap.size TVAL (fun k => S k ∧ k < w.heap.size) (.slice A5 (ta ++ x :: tb).length c5) (ta ++ x :: tb)) := hid (by first | exact hown | exact own_or hown)
  have HK3 := hid (show Ext w w3 from HK2.out.trans hk fun k hk e => by
    have e' : (Value.slice A4 (ta ++ [x]).length c4).ownBlock = some k := by rw [List.length_append]; exact e
    have := (HO2.out.lt e').1; omega)
  clear hown hk
  go_wp2
  go_ret
  exact ⟨_, rfl, HO3.out, HK3.out⟩
end Go.Proofs.Ytimhfkllamimeaa
