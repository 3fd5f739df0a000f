/- EncA, GrowThree, PencA, MixVal: laid together. -/
import Derived.Test.YtihaliffcobacaaGreatDoorSbB2
import Derived.Test.YtihaliffcobacaaGreatDoorSbB4
import Derived.Lib.AppendStr
set_option linter.unusedSimpArgs false
set_option linter.unusedVariables false
set_option maxHeartbeats 25600000
set_option maxRecDepth 20000
namespace Go.Proofs.YtihaliffcobacaaGreatDoor
open Go.RowKit
theorem strCells_byt (s : ByteArray) : Lib.strCells s = (byt s).map U8 := rfl
theorem own_append_str {P : Program} {w : World} {base : Nat} {t u T : TypeId} {S : BS} {v : Value} {xs : List UInt8} (ht : TyInfo P t T 1 1) (hz : ∀ i, P.info? T = some i → i.zero = some (.int .u8 0)) (hu : P.underlying u = some .string) (ty : TypeId) (hown : Own EU8 w base T S v xs) (s : ByteArray)
  (h63 : xs.length + s.size ≤ 140737488355328) (hbase : base ≤ w.heap.size) :
  ∃ v' w', (Builtin.append_ #[t, u] ty #[v, .string s]).run P w = .ok v' w' ∧ Own EU8 w' base T S v' (xs ++ byt s) ∧ w.grownBy w' v.ownBlock ∧ (v'.ownBlock = v.ownBlock ∨ ∃ g, v'.ownBlock = some g ∧ w.heap.size ≤ g) := by
 obtain ⟨i, z, hi, hz2, hsize, hby, _⟩ := ht.info
 obtain ⟨cs, hrow, hcs⟩ := hown.toRow EU8.ok
 have hcs := cells_U8 hcs
 subst hcs
 have hm : xs.length + s.size ≤ maxLen := by simp only [maxLen]; omega
 obtain ⟨v', w', h1, h2, h3, _⟩ := Lib.run_append_own_string (P := P) w base t u ty T i ht.under hu hi (hz i hi) hsize hby v xs.length (xs.map U8) hrow s hm h63 hbase
 refine ⟨v', w', h1, ?_, h3, ?_⟩
 ·rw [strCells_byt, ← List.map_append] at h2
  have e : xs.length + s.size = (xs ++ byt s).length := by rw [List.length_append, byt_len]
  rw [e] at h2
  exact Own.ofRow h2 (U8_cells _)
 ·rcases hrow.2 with ⟨rfl, h0⟩ | ⟨g, cap, cur, rfl, hbg, hg, hnc, hcm, hcs, htake⟩
  ·have hx : xs = [] := List.eq_nil_of_length_eq_zero h0
   subst hx
   obtain ⟨v2, w2, k1, k2, _, _⟩ := Lib.run_append_own_string (P := P) w w.heap.size t u ty T i ht.under hu hi (hz i hi) hsize hby (.slice none 0 0) 0 [] (World.ownsRow_nil _ _ _ _) s (by simpa using hm) (by simpa using h63) (Nat.le_refl _)
   rw [h1] at k1
   injection k1 with k1 k3
   subst k1 k3
   rcases k2.2 with ⟨rfl, _⟩ | ⟨g, cap, cur, rfl, hbg, _⟩
   ·exact .inl rfl
   ·exact .inr ⟨g, rfl, hbg⟩
  ·by_cases hroom : xs.length + s.size ≤ cap
   ·have hr := Lib.run_append_room_string (P := P) w t u ty T i ht.under hu hi hsize g xs.length cap cur hg s hroom (by have e1 : EU8.size = 1 := rfl; rw [e1] at hcs; omega)
    rw [h1] at hr
    injection hr with hr _
    exact .inl (by rw [hr]; rfl)
   ·have holds : ∀ j u, (xs.map U8)[j]? = some u → w.cell? ((⟨g, 0, none⟩ : Addr).add j) = some u := hrow.cells (g := g) rfl
    have hl : (xs.map U8).length = xs.length * i.size := by rw [hsize]; simp
    have hr := Lib.run_append_grow_string (P := P) w t u ty T i _ ht.under hu hi (hz i hi) ⟨g, 0, none⟩ xs.length cap (xs.map U8) hl holds s (by omega) (by omega) (growslice_fits (by omega) (by rw [hby, Nat.mul_one]; exact h63))
    rw [h1] at hr
    injection hr with hr _
    exact .inr ⟨w.heap.size, by rw [hr]; rfl, Nat.le_refl _⟩
theorem wpList_append_str {P : Program} {w : World} {base : Nat} {t u T : TypeId} {S : BS} {v : Value} {xs : List UInt8} {ops : Array Oper} {rest : List Oper} {o : Oper} {a : Act} {Q : Exit → Act → World → Prop} (hgd : o.guard = none) (s x : Operand) (str : ByteArray)
  (ht : TyInfo P t T 1 1) (hz : ∀ i, P.info? T = some i → i.zero = some (.int .u8 0)) (hu : P.underlying u = some .string) (ho : o.op = .call { callee := .builtin .append, args := #[s, x], argTypes := #[t, u] })
  (hs : a.eval s = v) (hx : a.eval x = .string str) (hown : Own EU8 w base T S v xs) (h63 : xs.length + str.size ≤ 140737488355328) (hbase : base ≤ w.heap.size)
  (h : ∀ v' w', Own EU8 w' base T S v' (xs ++ byt str) → Keep (fun k => v.ownBlock = some k) w w' → (v'.ownBlock = v.ownBlock ∨ ∃ g, v'.ownBlock = some g ∧ w.heap.size ≤ g) → wpList P ops Q rest (a.put o.dst v') w') : wpList P ops Q (o :: rest) a w := by
 obtain ⟨v', w', hrun, h1, h2, h3⟩ := own_append_str (P := P) (w := w) ht hz hu o.type hown str h63 hbase
 refine wpList_plain hgd fun K hK => ?_
 unfold Oper.wp execOp
 simp only [ho, resolve, invoke, builtin, Sem.run_bind, Sem.run_pure, Result.andThen_ok, List.map_toArray, List.map_cons, List.map_nil, hs, hx, hrun]
 exact hK _ _ (h v' w' h1 ((Keep.refl _ _).grown h2 (fun k e _ => e)) h3)
theorem zero_u8 : ∀ i, Tryz.prog.info? 5 = some i → i.zero = some (.int .u8 0) := by
 obtain ⟨i, h1, h2, _⟩ := info_parts (show (Tryz.prog.info? 5).map (fun i => (i.zero, i.size, i.bytes)) = some (some (.int .u8 0), 1, 1) from by kernel_rfl)
 exact fun j hj => Option.some.inj (h1.symm.trans hj) ▸ h2
abbrev TU8 : Nat := 5
abbrev TWR : Nat := 169
def WrAt (T : Nat) (W1 w : World) (b : Nat) (o : Option Nat) (xs : List UInt8) : Prop := ∃ X, Blk w b T #[X] ∧ Own EU8 w W1.heap.size TU8 (fun _ => False) X xs ∧ X.ownBlock = o ∧ b < W1.heap.size ∧ Keep (· = b) W1 w
def WTo (b : Nat) (o : Option Nat) (w : World) (o' : Option Nat) (w' : World) : Prop := Keep (fun k => k = b ∨ o = some k) w w' ∧ (o' = o ∨ ∃ g, o' = some g ∧ w.heap.size ≤ g)
def WrIs (T : Nat) (W1 w : World) (b : Nat) (o : Option Nat) (xs : List UInt8) (e : Ending) (w' : World) : Prop := e = .returned (.tuple #[]) ∧ ∃ o', WrAt T W1 w' b o' xs ∧ WTo b o w o' w'
theorem WTo.refl (b : Nat) (o : Option Nat) (w : World) : WTo b o w o w := ⟨Keep.refl _ _, .inl rfl⟩
theorem WTo.trans {b : Nat} {o o1 o2 : Option Nat} {w w1 w2 : World} (h : WTo b o w o1 w1) (h2 : WTo b o1 w1 o2 w2) : WTo b o w o2 w2 := by
 obtain ⟨k1, e1⟩ := h
 obtain ⟨k2, e2⟩ := h2
 refine ⟨k1.trans k2 fun k hk hh => ?_, ?_⟩
 ·rcases hh with h | h
  ·exact .inl h
  ·rcases e1 with e | ⟨g, e, hg⟩
   ·exact .inr (by rw [← e, h])
   ·rw [e] at h; injection h with h; omega
 ·have := k1.size
  rcases e2 with e | ⟨g, e, hg⟩
  ·rw [e]; exact e1
  ·exact .inr ⟨g, e, by omega⟩
theorem WrAt.lt {T : Nat} {W1 w : World} {b : Nat} {o : Option Nat} {xs : List UInt8} (h : WrAt T W1 w b o xs) {g : Nat} (hg : o = some g) : W1.heap.size ≤ g ∧ g < w.heap.size := by
 obtain ⟨X, _, h, e, _⟩ := h
 exact h.lt (by rw [e, hg])
theorem WrAt.low {T : Nat} {W1 w : World} {b : Nat} {o : Option Nat} {xs : List UInt8} (h : WrAt T W1 w b o xs) : b < W1.heap.size ∧ W1.heap.size ≤ w.heap.size := by
 obtain ⟨X, _, _, _, h1, h2⟩ := h
 exact ⟨h1, h2.size⟩
theorem WrAt.ext {T : Nat} {W1 w w' : World} {b : Nat} {o : Option Nat} {xs : List UInt8} (h : WrAt T W1 w b o xs) (he : Ext w w') : WrAt T W1 w' b o xs := by
 obtain ⟨X, h1, h2, h5, h3, h4⟩ := h
 exact ⟨X, h1.keep he id, h2.ext EU8.ok he, h5, h3, h4.ext he⟩
theorem WTo.ext {b : Nat} {o : Option Nat} {w w1 : World} (h : Ext w w1) : WTo b o w o w1 := ⟨h.mono fun _ _ x => x.elim, .inl rfl⟩
theorem WrAt.stored {T : Nat} {W1 w w' : World} {b : Nat} {xs ys : List UInt8} {X X' : Value} (hb : Blk w b T #[X]) (hown : Own EU8 w W1.heap.size TU8 (fun _ => False) X xs) (hlt : b < W1.heap.size) (hk : Keep (· = b) W1 w)
  (hown' : Own EU8 w' W1.heap.size TU8 (fun _ => False) X' ys) (hk' : Keep (fun k => X.ownBlock = some k) w w') (he : X'.ownBlock = X.ownBlock ∨ ∃ g, X'.ownBlock = some g ∧ w.heap.size ≤ g) :
  WrAt T W1 (w'.setCell ⟨b, 0, none⟩ X') b X'.ownBlock ys ∧ WTo b X.ownBlock w X'.ownBlock (w'.setCell ⟨b, 0, none⟩ X') := by
 have hge : ∀ k, X.ownBlock = some k → W1.heap.size ≤ k := fun k h => (hown.lt h).1
 have hs : Keep (· = b) w' (w'.setCell ⟨b, 0, none⟩ X') := (Keep.refl _ _).set1 0 _
 have hb' := hb.keep hk' (fun h => by have := hge _ h; omega)
 refine ⟨⟨X', ?_, hown'.keep EU8.ok hs (fun _ h => h.elim) (fun g hg e => by have := (hown'.lt hg).1; omega), rfl, hlt, (hk.trans hk' fun k h1 h2 => by have := hge _ h2; omega).trans hs fun _ _ h => h⟩, ?_, he⟩
 ·have := hb'.set_ 0 X'
  simpa using this
 ·exact (hk'.mono fun k _ h => .inr h).trans hs fun k _ h => .inl h
theorem WrAt.keep {T : Nat} {W1 w w' : World} {b : Nat} {o : Option Nat} {xs : List UInt8} (h : WrAt T W1 w b o xs) {o' : Option Nat} (ht : WTo b o w o' w') {S : BS} {u : Value} {x : V} (hu : VAt w S u x) (hS : ∀ k, S k → k < W1.heap.size ∧ k ≠ b) : VAt w' S u x :=
 hu.keep ht.1 fun k hk e => by
  have := hS k hk
  rcases e with e | e
  ·exact this.2 e
  ·have := (h.lt e).1; omega
set_option maxRecDepth 100000 in
theorem rnum_ok (W1 : World) (b : Nat) (n width : Nat) (hn : n < 18446744073709551616) (hw : width ≤ 8) (w : World) (o : Option Nat) (xs : List UInt8) (h : WrAt TWR W1 w b o xs) (hl : xs.length + width ≤ 140737488355328) :
  Calls Tryz.prog 117 #[.pointer (some ⟨b, 0, none⟩), .int .u64 n, .int .i64 width] w (WrIs TWR W1 w b o (xs ++ beN n width)) := by
 have H := hid h
 have HL := hid hl
 clear h hl
 have hwX : (width : Int) ≤ 8 := by omega
 go_enter Tryz.func117, Tryz.ntmps117
 go_wp2_with fail
 go_loopw [6] (fun i wr => ∃ (j : Nat) (ys : List UInt8) (o1 : Option Nat), j ≤ width ∧ i = .int .i64 ((j : Int) - 1) ∧ ys.length + j = width ∧ ys ++ beN n j = beN n width ∧ WrAt TWR W1 wr b o1 (xs ++ ys) ∧ WTo b o w o1 wr) (fun i _ => (intOf i + 1).toNat)
 case atStart => exact ⟨width, [], o, Nat.le_refl _, rfl, by simp, rfl, by rw [List.append_nil]; exact H.out, WTo.refl _ _ _⟩
 case round =>
  obtain ⟨j, ys, o1, hj, rfl, hyl, hys, hwr, hto⟩ := hrel
  have HTO := hid hto
  have HYL := hid hyl
  have HYS := hid hys
  have HWR := hid hwr
  clear hyl hys hwr hto
  rcases j with _ | j
  ·have e0 : ys = beN n width := by have := HYS.out; rw [beN, List.append_nil] at this; exact this
   subst e0
   clear hj
   go_wp2
   go_end0
   exact ⟨rfl, _, HWR.out, HTO.out⟩
  ·obtain ⟨X, hb, hown, rfl, hlt, hk⟩ := HWR.out
   obtain ⟨A, c, rfl, hlc, hcm⟩ := hown.shape
   have hnew := bytes_new (w := wr) (t := TU8) (f := (0, 0)) [UInt8.ofNat (n / 256 ^ j)] (by simp [maxLen])
   have hu : [UInt8.ofNat (n / 256 ^ j)].map U8 = [Value.int .u8 ((n : Int) / 2 ^ (8 * j) % 256)] := by
    simp only [List.map_cons, List.map_nil, U8, UInt8.toNat_ofNat']
    rw [show (256 : Nat) ^ j = 2 ^ (8 * j) by rw [Nat.pow_mul]]
    simp
   rw [hu] at hnew
   have hE1 : Ext wr (wr.alloc (.cells [Value.int .u8 ((n : Int) / 2 ^ (8 * j) % 256)].toArray TU8)) := (Keep.refl _ _).alloc _
   have HV := hid hnew
   have HO := hid (hown.ext EU8.ok hE1)
   have HB := hid (hb.keep hE1 id)
   have HK := hid (hk.ext hE1)
   have HBS := hid (show W1.heap.size ≤ (wr.alloc (.cells [Value.int .u8 ((n : Int) / 2 ^ (8 * j) % 256)].toArray TU8)).heap.size from by have := hk.size; simp; omega)
   have HOG := hid (fun g hg => hown.lt (g := g) hg)
   have HNX := hid (show (ys ++ [UInt8.ofNat (n / 256 ^ j)]) ++ beN n j = beN n width from by rw [List.append_assoc]; exact HYS.out)
   have HZ := hid (show (xs ++ ys).length + 1 ≤ 140737488355328 from by rw [List.length_append]; have := HL.out; have := HYL.out; omega)
   have HNL := hid (show (xs ++ ys).length + 1 = ((xs ++ ys) ++ [UInt8.ofNat (n / 256 ^ j)]).length from by rw [List.length_append (bs := [_])]; rfl)
   have q0 := hb.cell 0
   simp only [List.getElem?_toArray, List.getElem?_cons_zero] at q0
   have HE1 := hid hE1
   clear hnew hu hE1 hb hown hk
   have e1 : ((j + 1 : Nat) : Int) - 1 = (j : Int) := by omega
   have hjX : (j : Int) + 1 ≤ width := by omega
   rw [e1]
   clear e1 hlc hcm
   generalize UInt8.ofNat (n / 256 ^ j) = byte at *
   generalize hxy : xs ++ ys = xy at *
   go_wp2_with (at_builtin; refine wpList_own_append (E := EU8) _ rfl (.tmp 17) (.tmp 24) EU8.ok ty_u8 rfl rfl rfl HO.out HV.out ?c1 ?c2 ?c4 ?c3 ?_)
   case c1 => intro g hg; exact ⟨id, fun h => by have := HOG.out g hg; omega⟩
   case c2 => have := HZ.out; simp; omega
   case c4 => have := HZ.out; simp [maxLen]; omega
   case c3 => exact HBS.out
   intro v' w' h3 h6 h7
   obtain ⟨A', c', rfl, h4, h5⟩ := h3.shape
   have HW := hid (WrAt.stored HB.out HO.out hlt HK.out (own_u8 h3) h6 (h7.imp id fun h => ⟨_, h, by simp⟩))
   rw [show (xy ++ [byte]).length = xy.length + 1 by simp] at HW
   have hb2 : Blk w' b TWR _ := HB.out.keep h6 (fun h => by have := HOG.out _ h; omega)
   have f0 := hb2.frozen 0
   have q1 := hb2.cell 0
   simp only [List.getElem?_toArray, List.getElem?_cons_zero] at q1
   clear h3 h6 hb2 q0
   go_wp2_with fail
   exact ⟨⟨j, ys ++ [byte], _, by omega, rfl, by have := HYL.out; simp; omega, HNX.out, by rw [← List.append_assoc, hxy]; exact HW.out.1, HTO.out.trans ((WTo.ext HE1.out).trans HW.out.2)⟩, by simp [intOf]⟩
set_option maxRecDepth 100000 in
theorem rtext_ok (W1 : World) (b : Nat) (s : ByteArray) (hs : s.size < 4294967296) (w : World) (o : Option Nat) (xs : List UInt8) (h : WrAt TWR W1 w b o xs) (hl : xs.length + (4 + s.size) ≤ 140737488355328) :
  Calls Tryz.prog 118 #[.pointer (some ⟨b, 0, none⟩), .string s] w (WrIs TWR W1 w b o (xs ++ encT s)) := by
 have H := hid h
 have HL := hid hl
 have HS := hid hs
 have hsX : (s.size : Int) < 4294967296 := by omega
 clear h hl hs
 go_enter Tryz.func118, Tryz.ntmps118
 go_wp2_with fail
 refine (rnum_ok W1 b s.size 4 (by have := HS.out; omega) (by omega) w o xs H.out (by have := HL.out; omega)).mono ?_
 rintro e w1 ⟨rfl, o1, hw, hto⟩
 have HTO := hid hto
 clear hto
 obtain ⟨X, hb, hown, rfl, hlt, hk⟩ := hw
 obtain ⟨A, c, rfl, hlc, hcm⟩ := hown.shape
 have q0 := hb.cell 0
 simp only [List.getElem?_toArray, List.getElem?_cons_zero] at q0
 have HB := hid hb
 have HO := hid hown
 have HK := hid hk
 have HZ := hid (show (xs ++ beN s.size 4).length + s.size ≤ 140737488355328 from by rw [List.length_append, beN_len]; have := HL.out; omega)
 have HOG := hid (fun g hg => hown.lt (g := g) hg)
 have HSZ := hid hk.size
 clear hb hown hk hlc hcm
 generalize hxy : xs ++ beN s.size 4 = xy at *
 go_wp2_with (at_builtin; refine wpList_append_str rfl (.tmp 13) (.tmp 14) s ty_u8 zero_u8 Tryz.underlying9 rfl rfl rfl HO.out HZ.out HSZ.out ?_)
 intro v' w' h3 h6 h7
 obtain ⟨A', c', rfl, _, _⟩ := h3.shape
 have HW := hid (WrAt.stored HB.out HO.out hlt HK.out h3 h6 h7)
 have hb2 : Blk w' b TWR _ := HB.out.keep h6 (fun h => by have := HOG.out _ h; omega)
 have f0 := hb2.frozen 0
 have q1 := hb2.cell 0
 simp only [List.getElem?_toArray, List.getElem?_cons_zero] at q1
 clear h3 h6 hb2 q0
 go_wp2
 go_end0
 have := HW.out
 rw [List.length_append, byt_len] at this
 refine ⟨rfl, _, ?_, HTO.out.trans this.2⟩
 rw [encT, ← List.append_assoc, hxy]
 exact this.1
section
variable {P : Program} {ops : Array Oper} {C : World → Prop} {S : Spec}
def Then (P : Program) (ops : Array Oper) (p3 : List Nat) (Q : Exit → Act → World → Prop) : Exit → Act → World → Prop
 | .normal, a, w => wpPure P ops (fun a' => Q .normal a' w) p3 a
 | e, a, w => Q e a w
theorem Then.normal {p3 : List Nat} {Q : Exit → Act → World → Prop} {a : Act} {w : World} (h : wpPure P ops (fun a' => Q .normal a' w) p3 a) : Then P ops p3 Q .normal a w := h
end
abbrev TWP : Nat := 141
theorem wrap_u64 (n : Int) : IntKind.u64.wrap n = (u64 n : Int) := by simp only [IntKind.wrap, IntKind.bits, IntKind.signed, Bool.false_and, Bool.false_eq_true, if_false]; unfold u64; omega
set_option maxRecDepth 100000 in
theorem pint_ok (W1 : World) (b : Nat) (z : Int) (n width : Nat) (hz : IntKind.u64.wrap z = (n : Int)) (hw : width ≤ 8) (w : World) (o : Option Nat) (xs : List UInt8) (h : WrAt TWP W1 w b o xs) (hl : xs.length + width ≤ 140737488355328) :
  Calls Tryz.prog 103 #[.pointer (some ⟨b, 0, none⟩), .int .i64 z, .int .i64 width] w (WrIs TWP W1 w b o (xs ++ beN n width)) := by
 have H := hid h
 have HL := hid hl
 clear h hl
 have hwX : (width : Int) ≤ 8 := by omega
 go_enter Tryz.func103, Tryz.ntmps103
 go_wp2_with fail
 go_loopw [6] (fun i wr => ∃ (j : Nat) (ys : List UInt8) (o1 : Option Nat), j ≤ width ∧ i = .int .i64 ((j : Int) - 1) ∧ ys.length + j = width ∧ ys ++ beN n j = beN n width ∧ WrAt TWP W1 wr b o1 (xs ++ ys) ∧ WTo b o w o1 wr) (fun i _ => (intOf i + 1).toNat)
 case atStart => exact ⟨width, [], o, Nat.le_refl _, rfl, by simp, rfl, by rw [List.append_nil]; exact H.out, WTo.refl _ _ _⟩
 case round =>
  obtain ⟨j, ys, o1, hj, rfl, hyl, hys, hwr, hto⟩ := hrel
  have HTO := hid hto
  have HYL := hid hyl
  have HYS := hid hys
  have HWR := hid hwr
  clear hyl hys hwr hto
  rcases j with _ | j
  ·have e0 : ys = beN n width := by have := HYS.out; rw [beN, List.append_nil] at this; exact this
   subst e0
   clear hj
   go_wp2
   go_end0
   exact ⟨rfl, _, HWR.out, HTO.out⟩
  ·obtain ⟨X, hb, hown, rfl, hlt, hk⟩ := HWR.out
   obtain ⟨A, c, rfl, hlc, hcm⟩ := hown.shape
   have HO := hid hown
   have HB := hid hb
   have HK := hid hk
   have HOG := hid (fun g hg => hown.lt (g := g) hg)
   have HNX := hid (show (ys ++ [UInt8.ofNat (n / 256 ^ j)]) ++ beN n j = beN n width from by rw [List.append_assoc]; exact HYS.out)
   have HZ := hid (show (xs ++ ys).length + 1 ≤ 140737488355328 from by rw [List.length_append]; have := HL.out; have := HYL.out; omega)
   have hbyte : U8 (UInt8.ofNat (n / 256 ^ j)) = Value.int .u8 ((n : Int) / 2 ^ (8 * j) % 256) := by
    simp only [U8, UInt8.toNat_ofNat']
    rw [show (256 : Nat) ^ j = 2 ^ (8 * j) by rw [Nat.pow_mul]]
    simp
   have HU := hid hbyte
   have q0 := hb.cell 0
   simp only [List.getElem?_toArray, List.getElem?_cons_zero] at q0
   clear hown hb hk hbyte
   have e1 : ((j + 1 : Nat) : Int) - 1 = (j : Int) := by omega
   have hjX : (j : Int) + 1 ≤ width := by omega
   have hsh : Op.shift .shr .u64 (n : Int) .i64 (IntKind.i64.wrap (8 * (j : Int))) = pure (.int .u64 ((n : Int) / 2 ^ (8 * j))) := by
    have h80 : (0 : Int) ≤ 8 * (j : Int) := by omega
    have h81 : 8 * (j : Int) ≤ (64 : Nat) := by omega
    have h82 : (8 * (j : Int)).toNat = 8 * j := by omega
    have h83 := shift_shr .u64 .i64 (n : Int) (8 * (j : Int)) h80 h81
    rw [h82] at h83
    rw [IntWalk.i64_in _ (by omega)]
    exact h83
   rw [e1]
   clear e1 hlc hcm
   generalize UInt8.ofNat (n / 256 ^ j) = byte at *
   generalize hxy : xs ++ ys = xy at *
   go_wp2_with fail
   refine wp_region_parts [0] [1, 2, 3, 4, 5, 6, 7, 8, 9, 10, 11] [12, 13, 14, 15] (specOf [(11, fun v w' => SlShape EU8 w' (fun k => wr.heap.size ≤ k) v 1 [byte])])
    (fun w' => Ext wr w') (stable_cons (fun v w w' h he => h.ext EU8.ok he) stable_nil) (stableC_ext _) (by kernel_rfl) (by kernel_rfl) (Keep.drew (Keep.refl _ _)) ?_
   iterate 1
    (try simp only [Act.put, sqa, sqb, sqc])
    refine pure_run rfl rfl ?_
    apply Exists.intro
    refine ⟨fun w' => ?_, ?_⟩
    ·go_simp
     rfl
   refine pure_nil ?_
   iterate 10
    (try simp only [Act.put, sqa, sqb, sqc])
    refine growP_run rfl rfl rfl ?_
    apply Exists.intro
    refine ⟨fun w' hC hK => ?_, ?_⟩
    ·have q0 := sqw hC q0
     go_simp
     rfl
   (try simp only [Act.put, sqa, sqb, sqc])
   refine growP_eff rfl rfl rfl (fun w' hC hK => ?_) (fun v11 hv11 => ?_)
   ·unfold growAt
    go_simp
    have h1 := bytes_new (w := w') (t := TU8) (f := (0, 0)) [byte] (by simp [maxLen])
    simp only [List.map_cons, List.map_nil, HU.out] at h1
    exact ⟨(Keep.refl _ _).alloc _, _, _, rfl, h1.more EU8.ok fun k _ h => by have := hC.size; omega⟩
   obtain ⟨_, _, A7, c7, rfl, _⟩ := hv11.head
   refine growP_nil fun w' hC hK => ?_
   obtain ⟨_, _, _, f7⟩ : SlShape EU8 w' (fun k => wr.heap.size ≤ k) (.slice A7 1 c7) 1 [byte] := hK (11, _) List.mem_cons_self
   have hC : Ext wr w' := hC
   have HC := hid hC
   have HF := hid f7
   clear hv11 hK f7 hC q0
   change wpList _ _ _ (_ :: _ :: _ :: _ :: []) _ _
   (try simp only [Act.put, sqa, sqb, sqc])
   refine wpList_own_append (E := EU8) _ rfl (.tmp 17) (.tmp 24) EU8.ok ty_u8 rfl rfl rfl (HO.out.ext EU8.ok HC.out) HF.out ?c1 ?c2 ?c4 ?c3 ?_
   case c1 => intro g hg; exact ⟨id, fun h => by have := (HOG.out g hg).2; omega⟩
   case c2 => have := HZ.out; simp; omega
   case c4 => have := HZ.out; simp [maxLen]; omega
   case c3 => have := HK.out.size; have := HC.out.size; omega
   intro v' w2 h3 h6 h7
   obtain ⟨A', c', rfl, h4, h5⟩ := h3.shape
   have HW := hid (WrAt.stored (HB.out.keep HC.out id) (HO.out.ext EU8.ok HC.out) hlt (HK.out.ext HC.out) (own_u8 h3) h6 (h7.imp id fun h => ⟨_, h, Nat.le_refl _⟩))
   rw [show (xy ++ [byte]).length = xy.length + 1 by simp] at HW
   have hb2 : Blk w2 b TWP _ := (HB.out.keep HC.out id).keep h6 (fun h => by have := HOG.out _ h; omega)
   have f0 := hb2.frozen 0
   have q1 := hb2.cell 0
   simp only [List.getElem?_toArray, List.getElem?_cons_zero] at q1
   clear h3 h6 hb2 hsh HF
   (try simp only [Act.put, sqa, sqb, sqc])
   go_wp2_with fail
   refine NoPanic.normal ?_
   go_wp2
   exact ⟨⟨j, ys ++ [byte], _, by omega, rfl, by have := HYL.out; simp; omega, HNX.out, by rw [← List.append_assoc, hxy]; exact HW.out.1, HTO.out.trans ((WTo.ext HC.out).trans HW.out.2)⟩, by simp [intOf]⟩
set_option maxRecDepth 100000 in
theorem pu8_ok (W1 : World) (b : Nat) (z : Int) (n width : Nat) (hz : IntKind.u64.wrap z = (n : Int)) (hw : width ≤ 8) (w : World) (o : Option Nat) (xs : List UInt8) (h : WrAt TWP W1 w b o xs) (hl : xs.length + width ≤ 140737488355328) :
  Calls Tryz.prog 100 #[.pointer (some ⟨b, 0, none⟩), .int .u8 z, .int .i64 width] w (WrIs TWP W1 w b o (xs ++ beN n width)) := by
 have H := hid h
 have HL := hid hl
 clear h hl
 have hwX : (width : Int) ≤ 8 := by omega
 go_enter Tryz.func100, Tryz.ntmps100
 go_wp2_with fail
 go_loopw [6] (fun i wr => ∃ (j : Nat) (ys : List UInt8) (o1 : Option Nat), j ≤ width ∧ i = .int .i64 ((j : Int) - 1) ∧ ys.length + j = width ∧ ys ++ beN n j = beN n width ∧ WrAt TWP W1 wr b o1 (xs ++ ys) ∧ WTo b o w o1 wr) (fun i _ => (intOf i + 1).toNat)
 case atStart => exact ⟨width, [], o, Nat.le_refl _, rfl, by simp, rfl, by rw [List.append_nil]; exact H.out, WTo.refl _ _ _⟩
 case round =>
  obtain ⟨j, ys, o1, hj, rfl, hyl, hys, hwr, hto⟩ := hrel
  have HTO := hid hto
  have HYL := hid hyl
  have HYS := hid hys
  have HWR := hid hwr
  clear hyl hys hwr hto
  rcases j with _ | j
  ·have e0 : ys = beN n width := by have := HYS.out; rw [beN, List.append_nil] at this; exact this
   subst e0
   clear hj
   go_wp2
   go_end0
   exact ⟨rfl, _, HWR.out, HTO.out⟩
  ·obtain ⟨X, hb, hown, rfl, hlt, hk⟩ := HWR.out
   obtain ⟨A, c, rfl, hlc, hcm⟩ := hown.shape
   have HO := hid hown
   have HB := hid hb
   have HK := hid hk
   have HOG := hid (fun g hg => hown.lt (g := g) hg)
   have HNX := hid (show (ys ++ [UInt8.ofNat (n / 256 ^ j)]) ++ beN n j = beN n width from by rw [List.append_assoc]; exact HYS.out)
   have HZ := hid (show (xs ++ ys).length + 1 ≤ 140737488355328 from by rw [List.length_append]; have := HL.out; have := HYL.out; omega)
   have hbyte : U8 (UInt8.ofNat (n / 256 ^ j)) = Value.int .u8 ((n : Int) / 2 ^ (8 * j) % 256) := by
    simp only [U8, UInt8.toNat_ofNat']
    rw [show (256 : Nat) ^ j = 2 ^ (8 * j) by rw [Nat.pow_mul]]
    simp
   have HU := hid hbyte
   have q0 := hb.cell 0
   simp only [List.getElem?_toArray, List.getElem?_cons_zero] at q0
   clear hown hb hk hbyte
   have e1 : ((j + 1 : Nat) : Int) - 1 = (j : Int) := by omega
   have hjX : (j : Int) + 1 ≤ width := by omega
   have hsh : Op.shift .shr .u64 (n : Int) .i64 (IntKind.i64.wrap (8 * (j : Int))) = pure (.int .u64 ((n : Int) / 2 ^ (8 * j))) := by
    have h80 : (0 : Int) ≤ 8 * (j : Int) := by omega
    have h81 : 8 * (j : Int) ≤ (64 : Nat) := by omega
    have h82 : (8 * (j : Int)).toNat = 8 * j := by omega
    have h83 := shift_shr .u64 .i64 (n : Int) (8 * (j : Int)) h80 h81
    rw [h82] at h83
    rw [IntWalk.i64_in _ (by omega)]
    exact h83
   rw [e1]
   clear e1 hlc hcm
   generalize UInt8.ofNat (n / 256 ^ j) = byte at *
   generalize hxy : xs ++ ys = xy at *
   go_wp2_with fail
   refine wp_region_parts [0] [1, 2, 3, 4, 5, 6, 7, 8, 9, 10, 11] [12, 13, 14, 15] (specOf [(11, fun v w' => SlShape EU8 w' (fun k => wr.heap.size ≤ k) v 1 [byte])])
    (fun w' => Ext wr w') (stable_cons (fun v w w' h he => h.ext EU8.ok he) stable_nil) (stableC_ext _) (by kernel_rfl) (by kernel_rfl) (Keep.drew (Keep.refl _ _)) ?_
   iterate 1
    (try simp only [Act.put, sqa, sqb, sqc])
    refine pure_run rfl rfl ?_
    apply Exists.intro
    refine ⟨fun w' => ?_, ?_⟩
    ·go_simp
     rfl
   refine pure_nil ?_
   iterate 10
    (try simp only [Act.put, sqa, sqb, sqc])
    refine growP_run rfl rfl rfl ?_
    apply Exists.intro
    refine ⟨fun w' hC hK => ?_, ?_⟩
    ·have q0 := sqw hC q0
     go_simp
     rfl
   (try simp only [Act.put, sqa, sqb, sqc])
   refine growP_eff rfl rfl rfl (fun w' hC hK => ?_) (fun v11 hv11 => ?_)
   ·unfold growAt
    go_simp
    have h1 := bytes_new (w := w') (t := TU8) (f := (0, 0)) [byte] (by simp [maxLen])
    simp only [List.map_cons, List.map_nil, HU.out] at h1
    exact ⟨(Keep.refl _ _).alloc _, _, _, rfl, h1.more EU8.ok fun k _ h => by have := hC.size; omega⟩
   obtain ⟨_, _, A7, c7, rfl, _⟩ := hv11.head
   refine growP_nil fun w' hC hK => ?_
   obtain ⟨_, _, _, f7⟩ : SlShape EU8 w' (fun k => wr.heap.size ≤ k) (.slice A7 1 c7) 1 [byte] := hK (11, _) List.mem_cons_self
   have hC : Ext wr w' := hC
   have HC := hid hC
   have HF := hid f7
   clear hv11 hK f7 hC q0
   change wpList _ _ _ (_ :: _ :: _ :: _ :: []) _ _
   (try simp only [Act.put, sqa, sqb, sqc])
   refine wpList_own_append (E := EU8) _ rfl (.tmp 17) (.tmp 24) EU8.ok ty_u8 rfl rfl rfl (HO.out.ext EU8.ok HC.out) HF.out ?c1 ?c2 ?c4 ?c3 ?_
   case c1 => intro g hg; exact ⟨id, fun h => by have := (HOG.out g hg).2; omega⟩
   case c2 => have := HZ.out; simp; omega
   case c4 => have := HZ.out; simp [maxLen]; omega
   case c3 => have := HK.out.size; have := HC.out.size; omega
   intro v' w2 h3 h6 h7
   obtain ⟨A', c', rfl, h4, h5⟩ := h3.shape
   have HW := hid (WrAt.stored (HB.out.keep HC.out id) (HO.out.ext EU8.ok HC.out) hlt (HK.out.ext HC.out) (own_u8 h3) h6 (h7.imp id fun h => ⟨_, h, Nat.le_refl _⟩))
   rw [show (xy ++ [byte]).length = xy.length + 1 by simp] at HW
   have hb2 : Blk w2 b TWP _ := (HB.out.keep HC.out id).keep h6 (fun h => by have := HOG.out _ h; omega)
   have f0 := hb2.frozen 0
   have q1 := hb2.cell 0
   simp only [List.getElem?_toArray, List.getElem?_cons_zero] at q1
   clear h3 h6 hb2 hsh HF
   (try simp only [Act.put, sqa, sqb, sqc])
   go_wp2_with fail
   refine NoPanic.normal ?_
   go_wp2
   exact ⟨⟨j, ys ++ [byte], _, by omega, rfl, by have := HYL.out; simp; omega, HNX.out, by rw [← List.append_assoc, hxy]; exact HW.out.1, HTO.out.trans ((WTo.ext HC.out).trans HW.out.2)⟩, by simp [intOf]⟩
set_option maxRecDepth 100000 in
theorem pi64_ok (W1 : World) (b : Nat) (z : Int) (n width : Nat) (hz : IntKind.u64.wrap z = (n : Int)) (hw : width ≤ 8) (w : World) (o : Option Nat) (xs : List UInt8) (h : WrAt TWP W1 w b o xs) (hl : xs.length + width ≤ 140737488355328) :
  Calls Tryz.prog 101 #[.pointer (some ⟨b, 0, none⟩), .int .i64 z, .int .i64 width] w (WrIs TWP W1 w b o (xs ++ beN n width)) := by
 have H := hid h
 have HL := hid hl
 clear h hl
 have hwX : (width : Int) ≤ 8 := by omega
 go_enter Tryz.func101, Tryz.ntmps101
 go_wp2_with fail
 go_loopw [6] (fun i wr => ∃ (j : Nat) (ys : List UInt8) (o1 : Option Nat), j ≤ width ∧ i = .int .i64 ((j : Int) - 1) ∧ ys.length + j = width ∧ ys ++ beN n j = beN n width ∧ WrAt TWP W1 wr b o1 (xs ++ ys) ∧ WTo b o w o1 wr) (fun i _ => (intOf i + 1).toNat)
 case atStart => exact ⟨width, [], o, Nat.le_refl _, rfl, by simp, rfl, by rw [List.append_nil]; exact H.out, WTo.refl _ _ _⟩
 case round =>
  obtain ⟨j, ys, o1, hj, rfl, hyl, hys, hwr, hto⟩ := hrel
  have HTO := hid hto
  have HYL := hid hyl
  have HYS := hid hys
  have HWR := hid hwr
  clear hyl hys hwr hto
  rcases j with _ | j
  ·have e0 : ys = beN n width := by have := HYS.out; rw [beN, List.append_nil] at this; exact this
   subst e0
   clear hj
   go_wp2
   go_end0
   exact ⟨rfl, _, HWR.out, HTO.out⟩
  ·obtain ⟨X, hb, hown, rfl, hlt, hk⟩ := HWR.out
   obtain ⟨A, c, rfl, hlc, hcm⟩ := hown.shape
   have HO := hid hown
   have HB := hid hb
   have HK := hid hk
   have HOG := hid (fun g hg => hown.lt (g := g) hg)
   have HNX := hid (show (ys ++ [UInt8.ofNat (n / 256 ^ j)]) ++ beN n j = beN n width from by rw [List.append_assoc]; exact HYS.out)
   have HZ := hid (show (xs ++ ys).length + 1 ≤ 140737488355328 from by rw [List.length_append]; have := HL.out; have := HYL.out; omega)
   have hbyte : U8 (UInt8.ofNat (n / 256 ^ j)) = Value.int .u8 ((n : Int) / 2 ^ (8 * j) % 256) := by
    simp only [U8, UInt8.toNat_ofNat']
    rw [show (256 : Nat) ^ j = 2 ^ (8 * j) by rw [Nat.pow_mul]]
    simp
   have HU := hid hbyte
   have q0 := hb.cell 0
   simp only [List.getElem?_toArray, List.getElem?_cons_zero] at q0
   clear hown hb hk hbyte
   have e1 : ((j + 1 : Nat) : Int) - 1 = (j : Int) := by omega
   have hjX : (j : Int) + 1 ≤ width := by omega
   have hsh : Op.shift .shr .u64 (n : Int) .i64 (IntKind.i64.wrap (8 * (j : Int))) = pure (.int .u64 ((n : Int) / 2 ^ (8 * j))) := by
    have h80 : (0 : Int) ≤ 8 * (j : Int) := by omega
    have h81 : 8 * (j : Int) ≤ (64 : Nat) := by omega
    have h82 : (8 * (j : Int)).toNat = 8 * j := by omega
    have h83 := shift_shr .u64 .i64 (n : Int) (8 * (j : Int)) h80 h81
    rw [h82] at h83
    rw [IntWalk.i64_in _ (by omega)]
    exact h83
   rw [e1]
   clear e1 hlc hcm
   generalize UInt8.ofNat (n / 256 ^ j) = byte at *
   generalize hxy : xs ++ ys = xy at *
   go_wp2_with fail
   refine wp_region_parts [0] [1, 2, 3, 4, 5, 6, 7, 8, 9, 10, 11] [12, 13, 14, 15] (specOf [(11, fun v w' => SlShape EU8 w' (fun k => wr.heap.size ≤ k) v 1 [byte])])
    (fun w' => Ext wr w') (stable_cons (fun v w w' h he => h.ext EU8.ok he) stable_nil) (stableC_ext _) (by kernel_rfl) (by kernel_rfl) (Keep.drew (Keep.refl _ _)) ?_
   iterate 1
    (try simp only [Act.put, sqa, sqb, sqc])
    refine pure_run rfl rfl ?_
    apply Exists.intro
    refine ⟨fun w' => ?_, ?_⟩
    ·go_simp
     rfl
   refine pure_nil ?_
   iterate 10
    (try simp only [Act.put, sqa, sqb, sqc])
    refine growP_run rfl rfl rfl ?_
    apply Exists.intro
    refine ⟨fun w' hC hK => ?_, ?_⟩
    ·have q0 := sqw hC q0
     go_simp
     rfl
   (try simp only [Act.put, sqa, sqb, sqc])
   refine growP_eff rfl rfl rfl (fun w' hC hK => ?_) (fun v11 hv11 => ?_)
   ·unfold growAt
    go_simp
    have h1 := bytes_new (w := w') (t := TU8) (f := (0, 0)) [byte] (by simp [maxLen])
    simp only [List.map_cons, List.map_nil, HU.out] at h1
    exact ⟨(Keep.refl _ _).alloc _, _, _, rfl, h1.more EU8.ok fun k _ h => by have := hC.size; omega⟩
   obtain ⟨_, _, A7, c7, rfl, _⟩ := hv11.head
   refine growP_nil fun w' hC hK => ?_
   obtain ⟨_, _, _, f7⟩ : SlShape EU8 w' (fun k => wr.heap.size ≤ k) (.slice A7 1 c7) 1 [byte] := hK (11, _) List.mem_cons_self
   have hC : Ext wr w' := hC
   have HC := hid hC
   have HF := hid f7
   clear hv11 hK f7 hC q0
   change wpList _ _ _ (_ :: _ :: _ :: _ :: []) _ _
   (try simp only [Act.put, sqa, sqb, sqc])
   refine wpList_own_append (E := EU8) _ rfl (.tmp 17) (.tmp 24) EU8.ok ty_u8 rfl rfl rfl (HO.out.ext EU8.ok HC.out) HF.out ?c1 ?c2 ?c4 ?c3 ?_
   case c1 => intro g hg; exact ⟨id, fun h => by have := (HOG.out g hg).2; omega⟩
   case c2 => have := HZ.out; simp; omega
   case c4 => have := HZ.out; simp [maxLen]; omega
   case c3 => have := HK.out.size; have := HC.out.size; omega
   intro v' w2 h3 h6 h7
   obtain ⟨A', c', rfl, h4, h5⟩ := h3.shape
   have HW := hid (WrAt.stored (HB.out.keep HC.out id) (HO.out.ext EU8.ok HC.out) hlt (HK.out.ext HC.out) (own_u8 h3) h6 (h7.imp id fun h => ⟨_, h, Nat.le_refl _⟩))
   rw [show (xy ++ [byte]).length = xy.length + 1 by simp] at HW
   have hb2 : Blk w2 b TWP _ := (HB.out.keep HC.out id).keep h6 (fun h => by have := HOG.out _ h; omega)
   have f0 := hb2.frozen 0
   have q1 := hb2.cell 0
   simp only [List.getElem?_toArray, List.getElem?_cons_zero] at q1
   clear h3 h6 hb2 hsh HF
   (try simp only [Act.put, sqa, sqb, sqc])
   go_wp2_with fail
   refine NoPanic.normal ?_
   go_wp2
   exact ⟨⟨j, ys ++ [byte], _, by omega, rfl, by have := HYL.out; simp; omega, HNX.out, by rw [← List.append_assoc, hxy]; exact HW.out.1, HTO.out.trans ((WTo.ext HC.out).trans HW.out.2)⟩, by simp [intOf]⟩
set_option maxRecDepth 100000 in
theorem ptext_ok (W1 : World) (b : Nat) (s : ByteArray) (hs : s.size < 4294967296) (w : World) (o : Option Nat) (xs : List UInt8) (h : WrAt TWP W1 w b o xs) (hl : xs.length + (4 + s.size) ≤ 140737488355328) :
  Calls Tryz.prog 102 #[.pointer (some ⟨b, 0, none⟩), .string s] w (WrIs TWP W1 w b o (xs ++ encT s)) := by
 have H := hid h
 have HL := hid hl
 have HS := hid hs
 have hsX : (s.size : Int) < 4294967296 := by omega
 clear h hl hs
 go_enter Tryz.func102, Tryz.ntmps102
 go_wp2_with fail
 refine (pint_ok W1 b s.size s.size 4 (IntWalk.u64_in _ (by have := HS.out; omega)) (by omega) w o xs H.out (by have := HL.out; omega)).mono ?_
 rintro e w1 ⟨rfl, o1, hw, hto⟩
 have HTO := hid hto
 clear hto
 obtain ⟨X, hb, hown, rfl, hlt, hk⟩ := hw
 obtain ⟨A, c, rfl, hlc, hcm⟩ := hown.shape
 have q0 := hb.cell 0
 simp only [List.getElem?_toArray, List.getElem?_cons_zero] at q0
 have HB := hid hb
 have HO := hid hown
 have HK := hid hk
 have HZ := hid (show (xs ++ beN s.size 4).length + s.size ≤ 140737488355328 from by rw [List.length_append, beN_len]; have := HL.out; omega)
 have HOG := hid (fun g hg => hown.lt (g := g) hg)
 have HSZ := hid hk.size
 clear hb hown hk hlc hcm
 generalize hxy : xs ++ beN s.size 4 = xy at *
 go_wp2_with (at_builtin; refine wpList_append_str rfl (.tmp 12) (.tmp 13) s ty_u8 zero_u8 Tryz.underlying9 rfl rfl rfl HO.out HZ.out HSZ.out ?_)
 intro v' w' h3 h6 h7
 obtain ⟨A', c', rfl, _, _⟩ := h3.shape
 have HW := hid (WrAt.stored HB.out HO.out hlt HK.out h3 h6 h7)
 have hb2 : Blk w' b TWP _ := HB.out.keep h6 (fun h => by have := HOG.out _ h; omega)
 have f0 := hb2.frozen 0
 have q1 := hb2.cell 0
 simp only [List.getElem?_toArray, List.getElem?_cons_zero] at q1
 clear h3 h6 hb2 q0
 go_wp2
 go_end0
 have := HW.out
 rw [List.length_append, byt_len] at this
 refine ⟨rfl, _, ?_, HTO.out.trans this.2⟩
 rw [encT, ← List.append_assoc, hxy]
 exact this.1
abbrev set5 (w : World) (g o : Nat) (a b c d e : Value) : World := ((((w.setCell ⟨g, o, none⟩ a).setCell ⟨g, o + 1, none⟩ b).setCell ⟨g, o + 2, none⟩ c).setCell ⟨g, o + 3, none⟩ d).setCell ⟨g, o + 4, none⟩ e
theorem set5_keep (w : World) (g o : Nat) (a b c d e : Value) : Keep (· = g) w (set5 w g o a b c d e) := (((((Keep.refl (· = g) w).set1 o a).set1 (o + 1) b).set1 (o + 2) c).set1 (o + 3) d).set1 (o + 4) e
theorem set5_blk {w : World} {g : Nat} {T : TypeId} {cur : Array Value} (h : Blk w g T cur) (o : Nat) (a b c d e : Value) (ho : o + 5 ≤ cur.size) :
  ∃ cur', Blk (set5 w g o a b c d e) g T cur' ∧ cur'.toList = cur.toList.take o ++ [a, b, c, d, e] ++ cur.toList.drop (o + 5) := by
 refine ⟨_, ((((h.set_ o a).set_ (o + 1) b).set_ (o + 2) c).set_ (o + 3) d).set_ (o + 4) e, ?_⟩
 simp only [Array.toList_setIfInBounds]
 exact list_five _ _ _ _ _ _ _ (by simpa using ho)
section
variable {w : World} {S1 S0 : BS} {base : Nat} {T : TypeId} {v : Value} {j : Nat}
end
section
variable {w wr : World} {S : BS} {bx b1 B : Nat} {k0 n0 s0 lv ov : Value} {vl : List V} {vo : List F} {j i : Nat}
end
end Go.Proofs.YtihaliffcobacaaGreatDoor
