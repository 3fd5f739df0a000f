/- GrowThree, RefField, LawWith, SoundL, LawOne, PathB, PathAtG, CloneVal, CloneField: laid together. -/
import Derived.Test.YtggkidnlmaindaaDoorPxB4
import Derived.Test.YtggkidnlmaindaaDoorPxB6
import Derived.Test.YtggkidnlmaindaaDoorPxB5
import Derived.Laws.Strings
import Derived.Test.YtggkidnlmaindaaDoorPxB2
set_option linter.unusedSimpArgs false
set_option linter.unusedVariables false
set_option maxHeartbeats 25600000
set_option maxRecDepth 20000
namespace Go.Proofs.YtggkidnlmaindaaDoor
open Go.RowKit
section
variable {P : Program} {ops : Array Oper} {C : World → Prop} {S : Spec}
def Then (P : Program) (ops : Array Oper) (p3 : List Nat) (Q : Exit → Act → World → Prop) : Exit → Act → World → Prop
 | .normal, a, w => wpPure P ops (fun a' => Q .normal a' w) p3 a
 | e, a, w => Q e a w
theorem Then.normal {p3 : List Nat} {Q : Exit → Act → World → Prop} {a : Act} {w : World} (h : wpPure P ops (fun a' => Q .normal a' w) p3 a) : Then P ops p3 Q .normal a w := h
theorem Oper.wp_exits {o : Oper} {a : Act} {w : World} {K K' : Act → World → Prop} {Q Q' : Exit → Act → World → Prop} (hQ : ∀ e a w, e ≠ .normal → Q e a w → Q' e a w) (h : ∀ a w, K a w → K' a w) (hh : o.wp P a w K Q) : o.wp P a w K' Q' := by
 unfold Oper.wp at *
 generalize (execOp a.eval o).run P w = r at *
 cases r with
 | ok n w' =>
  cases n <;> simp only [Oper.upon] at hh ⊢ <;>
   first
    | exact h _ _ hh
    | exact Calls.mono hh (fun e w'' he => by
      cases e with
      | returned v => exact h _ _ he
      | panicked c => exact hQ _ _ _ (by simp) he
      | outgrown => obtain ⟨a, w, he⟩ := he; exact ⟨a, w, hQ _ _ _ (by simp) he⟩)
    | exact Rows.mono hh (fun _ _ he => h _ _ he)
 | halt x w' => cases x <;> simp only [Oper.upon] at hh ⊢ <;> first | exact hh | exact hQ _ _ _ (by simp) hh
theorem wpOp_exits {i : Nat} {a : Act} {w : World} {K K' : Act → World → Prop} {Q Q' : Exit → Act → World → Prop} (hQ : ∀ e a w, e ≠ .normal → Q e a w → Q' e a w) (h : ∀ a w, K a w → K' a w) (hh : wpOp P ops Q i K a w) : wpOp P ops Q' i K' a w := by
 unfold wpOp at *
 split
 ·exact h _ _ (by simpa [*] using hh)
 ·rename_i o ho
  simp only [ho] at hh
  split
  ·rename_i hw
   simp only [hw, if_true] at hh
   exact hh.imp (Oper.wp_exits hQ h) fun ⟨h1, a, w, h2⟩ => ⟨h1, a, w, hQ _ _ _ (by simp) h2⟩
  ·rename_i hw; simp only [hw] at hh; exact h _ _ hh
def forcedTo (ops : Array Oper) : List Nat → Array Bool → Bool
 | [], _ => true
 | k :: p, listed => Region.ready .any ops listed == [k] && forcedTo ops p (listed.setIfInBounds k true)
theorem wpAny_then {Q : Exit → Act → World → Prop} {p3 : List Nat} (hs : Region.noSelect ops = true) (hnp : ∀ c a w, ¬ Q (.panic c) a w) : ∀ (p : List Nat) (listed : Array Bool) (a : Act) (w : World), forcedTo ops p listed = true → firstB ops p3 (p.foldl (fun l i => l.setIfInBounds i true) listed) = true →
  Region.ready .any ops (p3.foldl (fun l i => l.setIfInBounds i true) (p.foldl (fun l i => l.setIfInBounds i true) listed)) = [] → wpOps P ops (Then P ops p3 Q) p a w → wpAny P .any ops Q (p3.length + p.length) listed a w
 | [], listed, a, w, _, hB, hr, h => by
  have := wpAny_pure (P := P) (Q' := Q) (w := w) hs hnp 0 p3 listed a hB (Q := fun a' => Q .normal a' w) h fun a' ha' => ⟨hr, ha'⟩
  simpa using this
 | k :: p, listed, a, w, hF, hB, hr, h => by
  simp only [forcedTo, Bool.and_eq_true, beq_iff_eq] at hF
  refine ⟨fun h0 => (by rw [hF.1] at h0; cases h0), fun i hi => ?_⟩
  rw [hF.1] at hi
  obtain rfl : i = k := by simpa using hi
  rw [wpOps_cons] at h
  exact wpOp_exits (fun e a w he hq => by cases e <;> first | exact hq | exact (he rfl).elim) (fun a w hh => wpAny_then hs hnp p _ a w hF.2 hB hr hh) h
theorem wpAny_of_growQ {p0 p1 p2 : List Nat} {T : Act → World → Prop} {N : Nat} {Q' : Exit → Act → World → Prop} (hS : StableS S) (hC : StableC C) (hT : ∀ a w, T a w → wpAny P .any ops Q' N (listOf ops.size p1) a w) (hcov : ∀ k, k < ops.size → k ∈ p1 ∨ k ∈ p2)
  (hdep : ∀ j ∈ p2, ∀ i ∈ p1, i ∈ p0 ∨ depB ops ops.size j i = true) : ∀ (fuel : Nat) (listed : Array Bool) (K : Known) (a : Act) (w : World),
  (∀ i ∈ p0, listed.getD i false = true) → Shut ops listed → Part ops p1 listed → StableK K → C w → allK K w → wpAnyP P ops C S p1 T fuel listed K a → wpAny P .any ops Q' (N + fuel) listed a w
 | 0, _, _, _, _, _, _, hp, _, hc, hk, h => by
  rw [listed_eq hp h.1]
  exact hT _ _ (h.2 _ hc hk)
 | fuel + 1, listed, K, a, w, hz0, hsh, hp, hK, hc, hk, h => by
  by_cases ha : allListed p1 listed = true
  ·rw [listed_eq hp ha]
   exact wpAny_add _ (hT _ _ (h.1 ha _ hc hk))
  ·have ha' : allListed p1 listed = false := by simpa using ha
   obtain ⟨i0, hi0, hn0⟩ : ∃ i ∈ p1, listed.getD i false = false := by
    have := ha
    simp only [allListed, List.all_eq_true] at this
    simpa using this
   have hno : ∀ i ∈ Region.ready .any ops listed, i ∈ p1 := fun i hi => by
    obtain ⟨_, o, ho, _⟩ := mem_ready.1 hi
    have hlt : i < ops.size := (Array.getElem?_eq_some_iff.1 ho).1
    rcases hcov i hlt with h | h
    ·exact h
    ·rcases hdep i h i0 hi0 with h1 | h1
     ·have := hz0 i0 h1
      rw [hn0] at this
      cases this
     ·have := depB_ready hsh hi h1
      rw [hn0] at this
      cases this
   have step : ∀ i ∈ Region.ready .any ops listed, wpOp P ops Q' i (wpAny P .any ops Q' (N + fuel) (listed.setIfInBounds i true)) a w := fun i hi =>
    wpOp_of_gOp hS hC hK hc hk (fun K' a' w' hK' hc' hk' hn => wpAny_of_growQ hS hC hT hcov hdep fuel _ K' a' w' (fun i hi => getD_set_true (hz0 i hi)) (hsh.set hi) ⟨by simpa using hp.1, fun k hkk => by
     rcases getD_set_cases hkk with rfl | hkk
     ·exact hno _ hi
     ·exact hp.2 k hkk⟩ hK' hc' hk' hn) ((h.2 ha').2 i hi)
   exact ⟨fun h0 => absurd h0 (h.2 ha').1, step⟩
def partB3 (l : List Oper) (p0 p1 p2 p3 : List Nat) : Bool :=
 Region.noSelect l.toArray && firstB l.toArray p0 (Array.replicate l.toArray.size false) && firstB l.toArray p1 (listOf l.toArray.size p0) && forcedTo l.toArray p2 (listOf l.toArray.size (p0 ++ p1)) &&
 firstB l.toArray p3 (p2.foldl (fun l i => l.setIfInBounds i true) (listOf l.toArray.size (p0 ++ p1))) && (Region.ready .any l.toArray (p3.foldl (fun l i => l.setIfInBounds i true) (p2.foldl (fun l i => l.setIfInBounds i true) (listOf l.toArray.size (p0 ++ p1))))).isEmpty &&
 ((List.range l.toArray.size).all fun k => p0.contains k || p1.contains k || (p2 ++ p3).contains k) && ((p2 ++ p3).all fun j => p1.all fun i => depB l.toArray l.toArray.size j i) && (p3.length + p2.length + p1.length + p0.length == l.length) && (p0.all fun k => k < l.length)
theorem wp_region_three (p0 p1 p2 p3 : List Nat) (S : Spec) (C : World → Prop) {id : Nat} {Q : Exit → Act → World → Prop} {a : Act} {w : World} {l : List Oper} (hS : StableS S) (hC : StableC C) (hm : P.follows .mixedOrders = true)
  (hB : partB3 l p0 p1 p2 p3 = true) (hw : C w.drew)
  (h : wpPure P l.toArray (wpGrowP P l.toArray C S (wpList P l.toArray (Then P l.toArray p3 (NoPanic Q)) (operOf l p2)) p1 []) p0 a) : (Code.region id l.toArray true).wp P Q a w := by
 simp only [partB3, Bool.and_eq_true] at hB
 obtain ⟨⟨⟨⟨⟨⟨⟨⟨⟨h1, h20⟩, h2⟩, h3⟩, h31⟩, h32⟩, h4⟩, h5⟩, h6⟩, h7⟩ := hB
 have hsh : Shut l.toArray (Array.replicate l.toArray.size false) := by
  intro j o _ hj
  by_cases hl : j < l.length <;> simp [Array.getD, hl] at hj
 have hsh0 : Shut l.toArray (listOf l.toArray.size p0) := Shut.fold p0 _ hsh h20
 have hcov : ∀ k, k < l.toArray.size → k ∈ p0 ++ p1 ∨ k ∈ p2 ++ p3 := fun k hk => by
  have := List.all_eq_true.1 h4 k (List.mem_range.2 hk)
  simp only [Bool.or_eq_true, List.contains_iff_mem] at this
  rcases this with (h | h) | h
  ·exact .inl (List.mem_append_left _ h)
  ·exact .inl (List.mem_append_right _ h)
  ·exact .inr h
 have hdep : ∀ j ∈ p2 ++ p3, ∀ i ∈ p1, depB l.toArray l.toArray.size j i = true := fun j hj i hi => List.all_eq_true.1 (List.all_eq_true.1 h5 j hj) i hi
 have hp0 : ∀ i ∈ p0, (listOf l.toArray.size p0).getD i false = true := fun i hi => by
  unfold listOf
  rw [foldl_get]
  exact .inr ⟨hi, by have := List.all_eq_true.1 h7 i hi; simpa using this⟩
 rw [← wpOps_of_list p2] at h
 have hK0 : StableK ([] : Known) := fun x hx => by cases hx
 have ha0 : ∀ w, allK ([] : Known) w := fun w x hx => by cases hx
 have g := wpAny_pure (P := P) (Q' := NoPanic Q) (w := w.drew) h1 (fun _ _ _ h => h) (p3.length + p2.length + p1.length) p0 (Array.replicate l.toArray.size false) a h20 h fun a' ha' => by
  have g1 := wpAnyP_lex (P := P) (p1 := p0 ++ p1) (p2 := p2 ++ p3) h1 hC hS hcov p1 (listOf l.toArray.size p0) [] a' (fun i hi => ⟨List.mem_append_right _ hi, fun j hj => hdep j hj i hi⟩)
   (fun i hi => by
    rcases List.mem_append.1 hi with h | h
    ·exact .inl (hp0 i h)
    ·exact .inr h) hsh0 (listOf_size _ _) hK0 ⟨w.drew, hw, ha0 _⟩ h2 ha'
  exact wpAny_of_growQ (p0 := p0) hS hC (fun a w => wpAny_then h1 (fun _ _ _ h => h) p2 _ a w h3 h31 (by simpa using h32)) hcov (fun j hj i hi => by
   rcases List.mem_append.1 hi with h | h
   ·exact .inl h
   ·exact .inr (hdep j hj i h)) p1.length _ [] a' w.drew hp0 hsh0 ⟨listOf_size _ _, fun k hk => by
    have hk := (foldl_get p0 _ k).1 hk
    rcases hk with hk | ⟨hk, _⟩
    ·by_cases hl : k < l.length <;> simp [Array.getD, hl] at hk
    ·exact List.mem_append_left _ hk⟩ hK0 hw (ha0 _) g1
 rw [beq_iff_eq] at h6
 rw [h6] at g
 exact wp_region_noPanic (wp_region_any hm g)
end
theorem rfield_val (w : World) (S : BS) (u : Value) (v : V) (key : ByteArray) (h : VAt w S u v) :
  Calls Tryd.prog 85 #[u, .string key] w fun e w' => e = .returned (.tuple #[.int .i64 (fieldL v.o key : Int), .bool (fieldIs v.o key)]) ∧ Ext w w' := by
 obtain ⟨lv, ov, rfl, hl, ho⟩ := h
 obtain ⟨A, c, rfl, hlc, hcm⟩ := hl.shape
 obtain ⟨A', c', rfl, hlc', hcm'⟩ := ho.shape
 unfold maxLen at hcm'
 have HO := hid ho
 generalize hvo : v.o = vo at *
 generalize v.kind = kk at *
 generalize v.n = nn at *
 generalize v.s = ss at *
 generalize v.l.length = ll at *
 clear hl ho hvo hlc hcm
 have hb1 : Blk (w.alloc (.cells #[U8 kk, .int .i64 nn, .string ss, .slice A ll c, .slice A' vo.length c'] TVAL)) w.heap.size TVAL #[U8 kk, .int .i64 nn, .string ss, .slice A ll c, .slice A' vo.length c'] := Blk.new _ _ _
 have q4 : (w.alloc (.cells #[U8 kk, .int .i64 nn, .string ss, .slice A ll c, .slice A' vo.length c'] TVAL)).cell? ⟨w.heap.size, 4, none⟩ = some (.slice A' vo.length c') := hb1.cell 4
 have hE1 : Ext w (w.alloc (.cells #[U8 kk, .int .i64 nn, .string ss, .slice A ll c, .slice A' vo.length c'] TVAL)) := (Keep.refl _ _).alloc _
 go_enter Tryd.func85, Tryd.ntmps85
 go_wp2_with fail
 generalize w.alloc (.cells #[U8 kk, .int .i64 nn, .string ss, .slice A ll c, .slice A' vo.length c'] TVAL) = w1 at *
 clear hb1
 have HE1 := hid hE1
 have HO1 := hid (HO.out.ext EField.ok hE1)
 clear hE1 HO
 generalize hn : vo.length = n at *
 have HN := hid hn
 clear hn
 go_loop [6] (fun i => ∃ j : Nat, j ≤ n ∧ i = .int .i64 j ∧ (∀ i (hi : i < vo.length), i < j → keyLt vo[i].key key = true)) (fun i => n - (intOf i).toNat)
 case atStart => exact ⟨0, by omega, rfl, fun i _ h => by omega⟩
 case round =>
  obtain ⟨j, hj, rfl, hfl⟩ := hrel
  have HF := hid hfl
  clear hfl
  by_cases hlt : j < n
  ·have hjm : j < vo.length := by rw [HN.out]; exact hlt
   obtain ⟨b1, o1, c0, rfl, _, _, hrd, hcell⟩ := HO1.out.at_ EField.ok hjm
   generalize hm : vo[j]'hjm = m at *
   obtain ⟨lv, ov, rfl, ⟨A1, d1, rfl⟩, ⟨A2, d2, rfl⟩, _⟩ := EField_cells hrd
   have e0 := hcell 0 _ rfl
   have hz : EField.size = 6 := rfl
   simp only [hz, Nat.add_zero] at e0
   have HM := hid hm
   clear hz hcell hrd hm
   have hjX : (j : Int) < n := by omega
   cases hp : keyLt m.key key with
   | true =>
    have HP := hid hp
    go_wp2
    go_round
    case rel =>
     refine ⟨j + 1, by omega, by go_num, fun i hi hij => ?_⟩
     rcases Nat.lt_or_ge i j with h | h
     ·exact HF.out i hi h
     ·obtain rfl : i = j := by omega
      rw [HM.out]; exact HP.out
    case measure => simp [intOf]; omega
   | false =>
    have HP := hid hp
    go_wp2_with fail
    refine wp_region_grow (specOf []) (fun w' => Ext w1 w') stable_nil (stableC_ext _) (by kernel_rfl) (by kernel_rfl) (Keep.drew (Keep.refl _ _)) ?_
    iterate 18
     (try simp only [Act.put, sqa, sqb, sqc])
     refine grow_run rfl rfl rfl ?_
     apply Exists.intro
     refine ⟨fun w' hC hK => ?_, ?_⟩
     ·have q4 := sqw hC q4
      have e0 := sqw hC e0
      go_simp
      rfl
    refine grow_nil fun w5 hC _ => ?_
    have HE5 := hid (HE1.out.ext (show Ext w1 w5 from hC))
    have hf := fieldL_at (by omega) HF.out (fun hj' => by rw [HM.out]; exact HP.out)
    have HQ := hid (And.intro hf (fieldIs_some hjm hf))
    clear hC hp hf q4 e0
    go_wp2
    go_ret2
    exact ⟨by rw [HQ.out.2, HQ.out.1, HM.out]; rfl, HE5.out⟩
  ·have HJ := hid (show j = n by omega)
   go_wp2_with fail
   refine wp_region_grow (specOf []) (fun w' => Ext w1 w') stable_nil (stableC_ext _) (by kernel_rfl) (by kernel_rfl) (Keep.drew (Keep.refl _ _)) ?_
   iterate 7
    (try simp only [Act.put, sqa, sqb, sqc])
    refine grow_run rfl rfl rfl ?_
    apply Exists.intro
    refine ⟨fun w' hC hK => ?_, ?_⟩
    ·have q4 := sqw hC q4
     go_simp
     rfl
   iterate 8
    (try simp only [Act.put, sqa, sqb, sqc])
    with_reducible refine grow_skip ?_ ?_ ?_
    ·rfl
    ·rfl
   iterate 3
    (try simp only [Act.put, sqa, sqb, sqc])
    refine grow_run rfl rfl rfl ?_
    apply Exists.intro
    refine ⟨fun w' hC hK => ?_, ?_⟩
    ·go_simp
     rfl
   refine grow_nil fun w5 hC _ => ?_
   have HE5 := hid (HE1.out.ext (show Ext w1 w5 from hC))
   have hf := fieldL_at (key := key) (by have := HJ.out; have := HN.out; omega) HF.out (fun hj' => by have := HJ.out; have := HN.out; omega)
   have HQ := hid (And.intro hf (fieldIs_none (hf.trans (HJ.out.trans HN.out.symm))))
   clear hC hf q4
   go_wp2
   go_ret2
   exact ⟨by rw [HQ.out.2, HQ.out.1]; rfl, HE5.out⟩
def withL (o : List F) (key : ByteArray) (x : V) : List F := o.take (fieldL o key) ++ F.mk key x :: o.drop (if fieldIs o key = true then fieldL o key + 1 else fieldL o key)
theorem own_orF {w : World} {base : Nat} {S : BS} {v : Value} {xs : List F} (h : Own EField w base TFIELD (fun k => S k ∨ S k) v xs) : Own EField w base TFIELD S v xs := h.more EField.ok fun _ _ h => h.elim id id
theorem blk_cells6 {w : World} {b : Nat} {T : TypeId} {a0 a1 a2 a3 a4 : Value} (h : Blk w b T #[a0, a1, a2, a3, a4]) : w.cell? ⟨b, 0, none⟩ = some a0 ∧ w.cell? ⟨b, 1, none⟩ = some a1 ∧ w.cell? ⟨b, 2, none⟩ = some a2 ∧ w.cell? ⟨b, 3, none⟩ = some a3 ∧ w.cell? ⟨b, 4, none⟩ = some a4 :=
 ⟨h.cell 0, h.cell 1, h.cell 2, h.cell 3, h.cell 4⟩
theorem lawwith_ok (xs : List F) (key : ByteArray) (x : V) (S : BS) (A : Option Addr) (c : Nat) (u : Value) (w : World) (hl : Sl EField w S (.slice A xs.length c) xs) (hx : VAt w S u x) (hn : xs.length ≤ 100000) :
  Calls Tryd.prog 76 #[.slice A xs.length c, .string key, u] w fun e w' => ∃ v, e = .returned v ∧ Own EField w' w.heap.size TFIELD (fun k => S k ∧ k < w.heap.size) v (withL xs key x) ∧ Ext w w' := by
 have hl := hl.more EField.ok (S' := fun k => S k ∧ k < w.heap.size) fun k h1 h2 => ⟨h2, h1⟩
 have hx := hx.more (S' := fun k => S k ∧ k < w.heap.size) fun k h1 h2 => ⟨h2, h1⟩
 obtain ⟨lv, ov, rfl, hxl, hxo⟩ := hx
 obtain ⟨B1, b1, rfl, _⟩ := hxl.shape
 obtain ⟨B2, b2, rfl, _⟩ := hxo.shape
 have hx : EVal.rd w (fun k => S k ∧ k < w.heap.size) [U8 x.kind, .int .i64 x.n, .string x.s, .slice B1 x.l.length b1, .slice B2 x.o.length b2] x := VAt.rd ⟨_, _, rfl, hxl, hxo⟩
 have hkl := fieldL_le xs key
 obtain ⟨ki, hki⟩ : ∃ ki, ki = if fieldIs xs key = true then fieldL xs key + 1 else fieldL xs key := ⟨_, rfl⟩
 have hkin : ki ≤ xs.length := by
  rw [hki]
  by_cases h : fieldIs xs key = true
  ·rw [if_pos h]; have := fieldIs_lt h; omega
  ·rw [if_neg h]; omega
 have hW : withL xs key x = xs.take (fieldL xs key) ++ F.mk key x :: xs.drop ki := by unfold withL; rw [hki]
 have hfv : ∀ w1, Ext w w1 → Calls Tryd.prog 85 #[.agg #[.int .u8 0, .int .i64 0, .string ⟨#[]⟩, .slice none 0 0, .slice A xs.length c], .string key] w1 fun e w' => e = .returned (.tuple #[.int .i64 (fieldL xs key : Int), .bool (fieldIs xs key)]) ∧ Ext w1 w' :=
  fun w1 h => rfield_val w1 (fun k => S k ∧ k < w.heap.size) (.agg #[.int .u8 0, .int .i64 0, .string ⟨#[]⟩, .slice none 0 0, .slice A xs.length c]) (.mk 0 0 ⟨#[]⟩ [] xs) key ⟨_, _, rfl, Sl.nil _ _, hl.ext EField.ok h⟩
 have HFV := hid hfv
 have HKI := hid hki
 have HW := hid hW
 clear hki hW hfv
 generalize fieldIs xs key = isk at *
 generalize fieldL xs key = k at *
 obtain ⟨r1, f1⟩ := front_fact (P := Tryd.prog) EField.ok ty_field hl (b := (k : Int)) rfl hkl
 obtain ⟨A2, r2, f2⟩ := tail_fact (P := Tryd.prog) EField.ok ty_field hl (a := (ki : Int)) (lo := ki) rfl hkin
 have hE0 : Ext w (w.alloc (.cells (vC x B1 b1 B2 b2) TVAL)) := (Keep.refl _ _).alloc _
 have hb0 : Blk (w.alloc (.cells (vC x B1 b1 B2 b2) TVAL)) w.heap.size TVAL (vC x B1 b1 B2 b2) := Blk.new _ _ _
 have HR2x := hid (fun (a : Int) (ha : a = (ki : Int)) (w' : World) => (by rw [ha]; exact r2 w' : (Instr.sliceAt 33 (.slice A xs.length c) (some (.int .i64 a)) none none).run Tryd.prog w' = .ok (.slice A2 (xs.length - ki) (c - ki)) w'))
 clear r2
 have HX := hid hx
 have HF1 := hid f1
 have HF2 := hid f2
 have HE0 := hid hE0
 have HB0 := hid hb0
 have HN := hid hn
 have ht1 : (xs.take k).length = k := by rw [List.length_take]; omega
 have ht2 : (xs.drop ki).length = xs.length - ki := by rw [List.length_drop]
 have hk9 : k ≤ 100000 := by omega
 have hki9 : ki ≤ 100000 := by omega
 generalize xs.take k = ta at *
 generalize xs.drop ki = tb at *
 have HT1 := hid ht1
 have HT2 := hid ht2
 have HKN := hid (And.intro hkl hkin)
 have q0 := (blk_cells6 hb0).1
 have q1 := (blk_cells6 hb0).2.1
 have q2 := (blk_cells6 hb0).2.2.1
 have q3 := (blk_cells6 hb0).2.2.2.1
 have q4 := (blk_cells6 hb0).2.2.2.2
 clear hl hx f1 f2 hn ht1 ht2 hE0 hb0 hxl hxo
 go_enter Tryd.func76, Tryd.ntmps76
 go_wp2_with fail
 generalize w.alloc (.cells (vC x B1 b1 B2 b2) TVAL) = w0 at *
 refine (HFV.out w0 HE0.out).mono ?_
 rintro e w1 ⟨rfl, hE1⟩
 clear q0 q1 q2 q3 q4 HFV
 have HK1 := hid (HE0.out.ext hE1)
 have HB1 := hid (HB0.out.keep hE1 id)
 have hw1 : w.heap.size ≤ w1.heap.size := HK1.out.size
 obtain ⟨d1, hr1, hd1⟩ := HF1.out.ext EField.ok HK1.out
 obtain ⟨d2, hr2, hd2⟩ := HF2.out.ext EField.ok HK1.out
 have HR1 := hid hr1
 have HD1 := hid hd1
 have HR2 := hid hr2
 have HD2 := hid hd2
 have HX1 := hid (EVal.ok.keep HX.out HK1.out fun _ _ h => h)
 clear hr1 hd1 hr2 hd2 hE1
 go_wp2_with (at_builtin; refine wpList_own_append2 (S := fun k => S k ∧ k < w.heap.size) (ys := ta) _ rfl (.tmp 17) (.tmp 20) EField.ok ty_field rfl rfl rfl (Own.nil _ w.heap.size _ _) HR1.out HD1.out ?c1 ?c2 ?c3 ?c4 ?_)
 case c1 =>
  intro g hg
  have hg : (Value.slice none 0 0).ownBlock = some g := hg
  cases hg
 case c2 => rw [HT1.out]; simp; omega
 case c3 => rw [HT1.out]; simp [maxLen]; omega
 case c4 => exact hw1
 intro v1 w2 hown hk _
 obtain ⟨A3, c3, rfl, hl3, hc3⟩ := hown.shape
 have hk1 : Ext w1 w2 := hk.mono fun k _ e => by
  have e : (Value.slice none 0 0).ownBlock = some k := e
  cases e
 have HO1 : Hid (Own EField w2 w.heap.size TFIELD (fun k => S k ∧ k < w.heap.size) (.slice A3 ta.length c3) ta) := hid (by first | exact hown | exact own_orF hown)
 have HK2 := hid (HK1.out.ext hk1)
 have HRb := hid (HR2.out.keep hk1 fun _ _ => id)
 have HDb := hid (HD2.out.keep EField.ok hk1 fun _ _ => id)
 have HXb := hid (EVal.ok.keep HX1.out hk1 fun _ _ h => h)
 have hb2 := HB1.out.keep hk1 id
 have q0 := (blk_cells6 hb2).1
 have q1 := (blk_cells6 hb2).2.1
 have q2 := (blk_cells6 hb2).2.2.1
 have q3 := (blk_cells6 hb2).2.2.2.1
 have q4 := (blk_cells6 hb2).2.2.2.2
 have hw2 : w.heap.size ≤ w2.heap.size := HK2.out.size
 have HS1 := hid (show w.heap.size < w2.heap.size from hb2.lt)
 clear hown hk hk1 hb2 HR1 HD1 HR2 HD2 HX1 HB1 HX
 have HOb := hid (HO1.out.ext EField.ok ((Keep.refl (fun _ => False) w2).alloc (.cells #[.string key, U8 x.kind, .int .i64 x.n, .string x.s, .slice B1 x.l.length b1, .slice B2 x.o.length b2] TFIELD)))
 have HRx := hid (RowS.new (w := w2) (t := TFIELD) (sz := 6) (n := 1) (cs := [.string key, U8 x.kind, .int .i64 x.n, .string x.s, .slice B1 x.l.length b1, .slice B2 x.o.length b2]) rfl (by simp [maxLen]) (0, 0))
 have HDx := hid (Cells.single (E := EField) (x := F.mk key x) (rdF_iff.2 ⟨_, rfl, EVal.ok.keep HXb.out ((Keep.refl (fun _ => False) w2).alloc (.cells #[.string key, U8 x.kind, .int .i64 x.n, .string x.s, .slice B1 x.l.length b1, .slice B2 x.o.length b2] TFIELD)) fun _ _ h => h⟩))
 go_wp2_with (at_builtin; refine wpList_own_append2 (ys := [F.mk key x]) _ rfl (.tmp 22) (.tmp 26) EField.ok ty_field rfl rfl rfl HOb.out HRx.out HDx.out ?d1 ?d2 ?d3 ?d4 ?_)
 case d1 => intro g hg; have := HO1.out.lt hg; exact ⟨fun h => by omega, fun h => by omega⟩
 case d2 => have := HT1.out; simp only [List.length_singleton]; omega
 case d3 => have := HT1.out; simp only [List.length_singleton, maxLen]; omega
 case d4 => rw [World.size_alloc]; omega
 intro v2 w3 hown hk _
 obtain ⟨A4, c4, rfl, hl4, hc4⟩ := hown.shape
 have hk2 : Keep (fun k => (Value.slice A3 ta.length c3).ownBlock = some k) w2 w3 := (Keep.alloc (Keep.refl (fun k => (Value.slice A3 ta.length c3).ownBlock = some k) w2) _).trans hk fun k _ e => e
 have HO2 : Hid (Own EField w3 w.heap.size TFIELD (fun k => S k ∧ k < w.heap.size) (.slice A4 (ta ++ [F.mk key x]).length c4) (ta ++ [F.mk key x])) := hid (by first | exact hown | exact own_orF hown)
 have hz2 := hk2.size
 have HK3 := hid (show Ext w w3 from HK2.out.trans hk2 fun k hk e => by have := (HO1.out.lt e).1; omega)
 have HRc := hid (HRb.out.keep hk2 fun k hs e => by have := (HO1.out.lt e).1; have := hs.2; omega)
 have HDc := hid (HDb.out.keep EField.ok hk2 fun k hs e => by have := (HO1.out.lt e).1; have := hs.2; omega)
 clear hown hk hk2 HOb HRx HDx HXb HRb HDb HO1 q0 q1 q2 q3 q4
 have fin : ∀ (v3 : Value) (w4 : World), Own EField w4 w.heap.size TFIELD (fun k => S k ∧ k < w.heap.size) v3 (ta ++ F.mk key x :: tb) → Keep (fun k => (Value.slice A4 (ta.length + 1) c4).ownBlock = some k) w3 w4 → Own EField w4 w.heap.size TFIELD (fun k => S k ∧ k < w.heap.size) v3 (withL xs key x) ∧ Ext w w4 := by
  intro v3 w4 h1 h2
  refine ⟨?_, HK3.out.trans h2 fun k hk e => by
   have e' : (Value.slice A4 (ta ++ [F.mk key x]).length c4).ownBlock = some k := by rw [List.length_append]; exact e
   have := (HO2.out.lt e').1; omega⟩
  rw [HW.out]
  exact h1
 have HFIN := hid fin
 clear fin
 have side1 : ∀ g, (Value.slice A4 (ta ++ [F.mk key x]).length c4).ownBlock = some g → ¬ (S g ∧ g < w.heap.size) ∧ ¬ (S g ∧ g < w.heap.size) := fun g hg => by have := HO2.out.lt hg; exact ⟨fun h => by omega, fun h => by omega⟩
 have HSI := hid side1
 clear side1
 have side2 : (ta ++ [F.mk key x]).length + tb.length ≤ 200002 := by have := HT1.out; have := HT2.out; have := HN.out; have := HKN.out; rw [List.length_append, List.length_singleton]; omega
 have HSJ := hid side2
 clear side2
 have hki := HKI.out
 clear HKI HN HKN
 cases isk with
 | true =>
  simp only [if_true] at hki
  have r2 := HR2x.out ((k : Int) + 1) (by omega)
  clear HR2x hki
  go_wp2_with (at_builtin; refine wpList_own_append2 (ys := tb) _ rfl (.tmp 31) (.tmp 34) EField.ok ty_field rfl rfl rfl HO2.out HRc.out HDc.out ?e1 ?e2 ?e3 ?e4 ?_)
  case e1 => exact HSI.out
  case e2 => have := HSJ.out; omega
  case e3 => have := HSJ.out; simp only [maxLen]; omega
  case e4 => omega
  intro v3 w4 hown hk _
  obtain ⟨A5, c5, rfl, hl5, hc5⟩ := hown.shape
  have HR := hid (HFIN.out _ _ hown hk)
  clear hown hk
  go_wp2
  go_ret
  exact ⟨_, rfl, HR.out.1, HR.out.2⟩
 | false =>
  simp only [Bool.false_eq_true, if_false] at hki
  have r2 := HR2x.out (k : Int) (by omega)
  clear HR2x hki
  go_wp2_with (at_builtin; refine wpList_own_append2 (ys := tb) _ rfl (.tmp 31) (.tmp 34) EField.ok ty_field rfl rfl rfl HO2.out HRc.out HDc.out ?e1 ?e2 ?e3 ?e4 ?_)
  case e1 => exact HSI.out
  case e2 => have := HSJ.out; omega
  case e3 => have := HSJ.out; simp only [maxLen]; omega
  case e4 => omega
  intro v3 w4 hown hk _
  obtain ⟨A5, c5, rfl, hl5, hc5⟩ := hown.shape
  have HR := hid (HFIN.out _ _ hown hk)
  clear hown hk
  go_wp2
  go_ret
  exact ⟨_, rfl, HR.out.1, HR.out.2⟩
theorem rise_iff : ∀ (o : List F), Rise o ↔ o.Pairwise fun f g => keyLt f.key g.key = true
 | [] => by simp [Rise]
 | f :: fs => by rw [Rise, List.pairwise_cons, rise_iff fs]
theorem take_fieldL (o : List F) (key : ByteArray) : o.take (fieldL o key) = o.takeWhile fun f => keyLt f.key key := by
 unfold fieldL
 exact (List.prefix_iff_eq_take.1 (List.takeWhile_prefix _)).symm
theorem take_fieldL_lt {o : List F} {key : ByteArray} {f : F} (h : f ∈ o.take (fieldL o key)) : keyLt f.key key = true := by
 rw [take_fieldL] at h
 have := List.all_takeWhile (l := o) (p := fun f => keyLt f.key key)
 rw [List.all_eq_true] at this
 exact this f h
theorem fieldL_head : ∀ {o : List F} {key : ByteArray} (h : fieldL o key < o.length), keyLt (o[fieldL o key]).key key = false
 | [], key, h => by simp at h
 | f :: fs, key, h => by
  by_cases hf : keyLt f.key key = true
  ·have e : fieldL (f :: fs) key = fieldL fs key + 1 := by unfold fieldL; rw [List.takeWhile_cons, hf]; rfl
   have h2 : fieldL fs key < fs.length := by rw [e] at h; simpa using h
   have := fieldL_head h2
   simp only [e, List.getElem_cons_succ]
   exact this
  ·have e : fieldL (f :: fs) key = 0 := by unfold fieldL; rw [List.takeWhile_cons, if_neg hf]; rfl
   simp only [e, List.getElem_cons_zero]
   simpa using hf
theorem key_eq {a b : ByteArray} (h : a.toList = b.toList) : a = b := by
 have h1 : a.data.toList = b.data.toList := by rw [← ByteArray.toList_eq, ← ByteArray.toList_eq]; exact h
 cases a; cases b
 simp only at h1
 rw [Array.toList_inj.1 h1]
theorem drop_lt {o : List F} {key : ByteArray} (hr : Rise o) {g : F} (h : g ∈ o.drop (if fieldIs o key = true then fieldL o key + 1 else fieldL o key)) : keyLt key g.key = true := by
 rw [rise_iff] at hr
 by_cases hk : fieldL o key < o.length
 ·have h0 := fieldL_head hk
  have hd := List.drop_eq_getElem_cons hk
  have hr2 : (o.drop (fieldL o key)).Pairwise fun f g => keyLt f.key g.key = true := hr.sublist (List.drop_sublist _ _)
  rw [hd, List.pairwise_cons] at hr2
  have hi := fieldIs_some hk rfl
  by_cases hc : fieldIs o key = true
  ·rw [if_pos hc] at h
   rw [hi] at hc
   have he := key_eq (by simpa using hc)
   have := hr2.1 g h
   rwa [he] at this
  ·rw [if_neg hc, hd] at h
   rw [hi] at hc
   have hne : (o[fieldL o key]).key.toList ≠ key.toList := by simpa using hc
   have hlt := less_total h0 hne
   rcases List.mem_cons.1 h with rfl | h
   ·exact hlt
   ·exact less_trans hlt (hr2.1 g h)
 ·have hc : fieldIs o key = false := fieldIs_none (by have := fieldL_le o key; omega)
  rw [if_neg (by simp [hc])] at h
  rw [List.drop_eq_nil_of_le (by omega)] at h
  cases h
theorem withL_rise {o : List F} {key : ByteArray} {x : V} (hr : Rise o) : Rise (withL o key x) := by
 have hr' := (rise_iff o).1 hr
 rw [rise_iff]
 unfold withL
 rw [List.pairwise_append, List.pairwise_cons]
 refine ⟨hr'.sublist (List.take_sublist _ _), ⟨fun g hg => drop_lt hr hg, hr'.sublist (List.drop_sublist _ _)⟩, fun a ha b hb => ?_⟩
 have h1 := take_fieldL_lt ha
 rcases List.mem_cons.1 hb with rfl | hb
 ·exact h1
 ·exact less_trans h1 (drop_lt hr hb)
theorem withL_sfs {o : List F} {key : ByteArray} {x : V} (h : SFs o) (hk : Asc key) (hx : SV x) : SFs (withL o key x) := by
 rw [SFs_iff] at h ⊢
 intro f hf
 unfold withL at hf
 rcases List.mem_append.1 hf with hf | hf
 ·exact h f (List.mem_of_mem_take hf)
 ·rcases List.mem_cons.1 hf with rfl | hf
  ·rw [SF_iff]; exact ⟨hk, hx⟩
  ·exact h f (List.mem_of_mem_drop hf)
theorem F.sizes_take (o : List F) (k k' : Nat) (h : k ≤ k') : F.sizes (o.take k) + F.sizes (o.drop k') ≤ F.sizes o := by
 have h1 : F.sizes (o.take k) + F.sizes (o.drop k) = F.sizes o := by rw [← F.sizes_append, List.take_append_drop]
 have h2 : F.sizes ((o.drop k).take (k' - k)) + F.sizes ((o.drop k).drop (k' - k)) = F.sizes (o.drop k) := by rw [← F.sizes_append, List.take_append_drop]
 rw [List.drop_drop, show k + (k' - k) = k' from by omega] at h2
 omega
theorem withL_sizes (o : List F) (key : ByteArray) (x : V) : F.sizes (withL o key x) ≤ F.sizes o + x.size := by
 unfold withL
 rw [F.sizes_append, F.sizes, F.size_eq]
 have := F.sizes_take o (fieldL o key) (if fieldIs o key = true then fieldL o key + 1 else fieldL o key) (by split <;> omega)
 show F.sizes _ + (x.size + F.sizes _) ≤ _
 omega
theorem fieldL_of {o : List F} (hr : Rise o) {j : Nat} (hj : j < o.length) : fieldL o o[j].key = j ∧ fieldIs o o[j].key = true := by
 have hr' := (rise_iff o).1 hr
 have h : fieldL o o[j].key = j := fieldL_at (by omega) (fun i hi hij => List.pairwise_iff_getElem.1 hr' i j hi hj hij) (fun _ => less_irrefl _)
 exact ⟨h, by rw [fieldIs_some hj h]; simp⟩
abbrev TSTEP : Nat := 61
abbrev stV (s : St) : Value := .agg #[.bool s.list, .int .i64 s.i, .string s.key]
def IntoIs (lv ov : Value) (x : V) (s : St) (e : Ending) : Prop := match stepV x s with
 | none => e = .returned (.pointer none)
 | some (.l i) => ∀ g o cap, lv = .slice (some ⟨g, o, none⟩) x.l.length cap → e = .returned (.pointer (some ⟨g, o + i * 5, none⟩))
 | some (.o k) => ∀ g o cap, ov = .slice (some ⟨g, o, none⟩) x.o.length cap → e = .returned (.pointer (some ⟨g, o + k * 6 + 1, none⟩))
def NextI (I : World → Nat → Nat → Nat → V → Prop) (w : World) (j : Nat) (lv ov : Value) (x : V) (s : St) : Prop := match stepV x s with
 | none => True
 | some (.l i) => ∃ g o c y, lv = .slice (some ⟨g, o, none⟩) x.l.length c ∧ I w (j + 1) g (o + i * 5) y
 | some (.o k) => ∃ g o c y, ov = .slice (some ⟨g, o, none⟩) x.o.length c ∧ I w (j + 1) g (o + k * 6 + 1) y
theorem IntoIs.next {I : World → Nat → Nat → Nat → V → Prop} {w : World} {j : Nat} {lv ov : Value} {x : V} {s : St} {e : Ending} (h : IntoIs lv ov x s e) (hn : NextI I w j lv ov x s) :
  (e = .returned (.pointer none) ∧ stepV x s = none) ∨ ∃ g o y, e = .returned (.pointer (some ⟨g, o, none⟩)) ∧ I w (j + 1) g o y := by
 unfold IntoIs at h
 unfold NextI at hn
 cases hs : stepV x s with
 | none => rw [hs] at h; exact .inl ⟨h, rfl⟩
 | some loc =>
  rw [hs] at h hn
  cases loc with
  | l i => obtain ⟨g, o, c, y, h1, h2⟩ := hn; exact .inr ⟨g, _, y, h g o c h1, h2⟩
  | o k => obtain ⟨g, o, c, y, h1, h2⟩ := hn; exact .inr ⟨g, _, y, h g o c h1, h2⟩
theorem clone_vals (v : Value) (l : List _) (S : BS) (w : World) (hv : Sl EVal w S v l) (hl : l.length ≤ 1000000) (hSr : ∀ k, S k → k < w.heap.size) :
  Calls Tryd.prog 55 #[v] w fun e w' => ∃ v', e = .returned v' ∧ Own EVal w' w.heap.size TVAL S v' l ∧ Ext w w' := by
 obtain ⟨A, c, rfl, h1, h2⟩ := hv.shape
 unfold maxLen at h2
 cases A with
 | none =>
  have hn : l = [] := by
   obtain ⟨cs, ⟨_, A', c', e, _, _, h3⟩, _⟩ := hv
   rcases Nat.eq_zero_or_pos l.length with h0 | h0
   ·exact List.eq_nil_of_length_eq_zero h0
   ·obtain ⟨b, off, e', _⟩ := h3 h0
    injection e with e1 _ _
    rw [e'] at e1
    cases e1
  subst hn
  have heq := Lib.run_eql_slice_nil (P := Tryd.prog) w 32 TVAL none 0 c 0 0 Tryd.underlying32
  rw [List.length_nil]
  go_enter Tryd.func55, Tryd.ntmps55
  go_wp2
  go_ret
  exact ⟨_, rfl, Own.nil _ _ _ _, Keep.refl _ _⟩
 | some a =>
  have heq := Lib.run_eql_slice_nil (P := Tryd.prog) w 32 TVAL (some a) l.length c 0 0 Tryd.underlying32
  have hown : Own EVal (w.alloc (.cells #[] TVAL)) w.heap.size TVAL (fun _ => False) (.slice (some ⟨w.heap.size, 0, none⟩) 0 0) [] :=
   .inr ⟨w.heap.size, 0, #[], rfl, Nat.le_refl _, Blk.new _ _ _, by simp, by simp [maxLen], by simp, rfl⟩
  have hsrc := hv.ext EVal.ok ((Keep.refl _ _).alloc (.cells #[] TVAL))
  have HSr := hid hSr
  clear hSr
  go_enter Tryd.func55, Tryd.ntmps55
  go_wp2_with (at_builtin; refine wpList_own_append _ rfl (.tmp 5) (.tmp 6) EVal.ok ty_val rfl rfl rfl hown hsrc ?c1 ?c2 ?c3 ?c4 ?_)
  case c1 => intro g hg; have hg : w.heap.size = g := Option.some.inj hg; exact ⟨id, fun h => by have := HSr.out _ h; omega⟩
  case c2 => simp; omega
  case c3 => simp [maxLen]; omega
  case c4 => simp
  intro v' w' hown' hk hb
  have hE : Ext w w' := ((Keep.refl (fun _ => False) w).alloc _).trans hk (fun k hlt e => by have e : w.heap.size = k := Option.some.inj e; omega)
  have H := hid (hown'.more (S' := S) EVal.ok (fun k _ h => by first | exact h | exact Or.elim h False.elim id))
  clear hown' hb hsrc hown
  go_wp2
  go_ret
  exact ⟨_, rfl, H.out, hE⟩
theorem clone_fields (v : Value) (l : List _) (S : BS) (w : World) (hv : Sl EField w S v l) (hl : l.length ≤ 1000000) (hSr : ∀ k, S k → k < w.heap.size) :
  Calls Tryd.prog 56 #[v] w fun e w' => ∃ v', e = .returned v' ∧ Own EField w' w.heap.size TFIELD S v' l ∧ Ext w w' := by
 obtain ⟨A, c, rfl, h1, h2⟩ := hv.shape
 unfold maxLen at h2
 cases A with
 | none =>
  have hn : l = [] := by
   obtain ⟨cs, ⟨_, A', c', e, _, _, h3⟩, _⟩ := hv
   rcases Nat.eq_zero_or_pos l.length with h0 | h0
   ·exact List.eq_nil_of_length_eq_zero h0
   ·obtain ⟨b, off, e', _⟩ := h3 h0
    injection e with e1 _ _
    rw [e'] at e1
    cases e1
  subst hn
  have heq := Lib.run_eql_slice_nil (P := Tryd.prog) w 33 TFIELD none 0 c 0 0 Tryd.underlying33
  rw [List.length_nil]
  go_enter Tryd.func56, Tryd.ntmps56
  go_wp2
  go_ret
  exact ⟨_, rfl, Own.nil _ _ _ _, Keep.refl _ _⟩
 | some a =>
  have heq := Lib.run_eql_slice_nil (P := Tryd.prog) w 33 TFIELD (some a) l.length c 0 0 Tryd.underlying33
  have hown : Own EField (w.alloc (.cells #[] TFIELD)) w.heap.size TFIELD (fun _ => False) (.slice (some ⟨w.heap.size, 0, none⟩) 0 0) [] :=
   .inr ⟨w.heap.size, 0, #[], rfl, Nat.le_refl _, Blk.new _ _ _, by simp, by simp [maxLen], by simp, rfl⟩
  have hsrc := hv.ext EField.ok ((Keep.refl _ _).alloc (.cells #[] TFIELD))
  have HSr := hid hSr
  clear hSr
  go_enter Tryd.func56, Tryd.ntmps56
  go_wp2_with (at_builtin; refine wpList_own_append _ rfl (.tmp 5) (.tmp 6) EField.ok ty_field rfl rfl rfl hown hsrc ?c1 ?c2 ?c3 ?c4 ?_)
  case c1 => intro g hg; have hg : w.heap.size = g := Option.some.inj hg; exact ⟨id, fun h => by have := HSr.out _ h; omega⟩
  case c2 => simp; omega
  case c3 => simp [maxLen]; omega
  case c4 => simp
  intro v' w' hown' hk hb
  have hE : Ext w w' := ((Keep.refl (fun _ => False) w).alloc _).trans hk (fun k hlt e => by have e : w.heap.size = k := Option.some.inj e; omega)
  have H := hid (hown'.more (S' := S) EField.ok (fun k _ h => by first | exact h | exact Or.elim h False.elim id))
  clear hown' hb hsrc hown
  go_wp2
  go_ret
  exact ⟨_, rfl, H.out, hE⟩
end Go.Proofs.YtggkidnlmaindaaDoor
