/- OpRec, EncP, EncA, EncB, EncD, LawNum, EncL, EncG, EncH: laid together. -/
import Derived.Test.YtggkidnlmaindaaDoorPxB35
import Derived.Test.YtggkidnlmaindaaDoorPxB2
import Derived.Test.YtggkidnlmaindaaDoorPxB4
import Derived.Lib.AppendStr
import Derived.Test.YtggkidnlmaindaaDoorPxB6
import Derived.Test.YtggkidnlmaindaaDoorPxB14
import Derived.Test.YtggkidnlmaindaaDoorPxB19
set_option linter.unusedSimpArgs false
set_option linter.unusedVariables false
set_option maxHeartbeats 25600000
set_option maxRecDepth 20000
namespace Go.Proofs.YtggkidnlmaindaaDoor
open Go.ChangeShapes Go.WideShapes Go.ChangeAt Go.RowKit Go.Deep
theorem op_br {H : Type} {enc : TypeId × Value → H} {W : World} {spare : Nat → Bool} {held : Bool} : Opens EBr enc Tryd.prog W spare held 91 (fun _ => True) := by
 refine (opens_struct Tryd.underlying91 (by kernel_rfl) (fop_cons rfl (opens_u8 Tryd.underlying5 (by kernel_rfl)) (fop_cons rfl (opens_slice ESt.ok Tryd.underlying56 (by kernel_rfl) op_st2)
  (fop_cons rfl (opens_str Tryd.underlying9 (by kernel_rfl)) (fop_cons rfl (opens_int Tryd.underlying3 (by kernel_rfl)) (fop_cons rfl (opens_int Tryd.underlying3 (by kernel_rfl)) (fop_cons rfl (opens_int Tryd.underlying2 (by kernel_rfl)) (fop_cons rfl (opens_str Tryd.underlying9 (by kernel_rfl))
  (fop_one rfl (opens_slice ETok.ok Tryd.underlying22 (by kernel_rfl) op_tok)))))))))).map rfl (fun x => ⟨x.1, x.2.1, x.2.2.1, x.2.2.2.1, x.2.2.2.2.1, x.2.2.2.2.2.1, x.2.2.2.2.2.2.1, x.2.2.2.2.2.2.2⟩) ?_ ?_
 ·rintro w S cs x ⟨c1, _, rfl, h1, c2, _, rfl, ⟨pv, h2, h2'⟩, c3, _, rfl, h3, c4, _, rfl, h4, c5, _, rfl, h5, c6, _, rfl, h6, c7, c8, rfl, h7, ⟨vv, h8, h8'⟩⟩
  exact ⟨pv, vv, by rw [show c1 = _ from h1, h2, show c3 = _ from h3, show c4 = _ from h4, show c5 = _ from h5, show c6 = _ from h6, show c7 = _ from h7, h8]; rfl, h2', h8'⟩
 ·intro _ _; trivial
def ERc : El Rc := { size := 7, rd := fun w S cs r => ∃ vv ov av, cs = [U8 r.kind, .int .u32 r.src, .int .u32 r.seq, vv, ov, av, .bool r.sound] ∧ Sl ETok w S vv r.v ∧ Sl EBr w S ov r.op ∧ Sl EAc w S av r.acts }
theorem ERc.ok : ERc.Ok where
 pos := by decide
 len := fun ⟨_, _, _, h, _⟩ => by subst h; rfl
 one := fun ⟨vv, ov, av, h, h1, h2, h3⟩ u hu => by
  subst h
  obtain ⟨A, c, rfl, _⟩ := h1.shape
  obtain ⟨B, d, rfl, _⟩ := h2.shape
  obtain ⟨D, e, rfl, _⟩ := h3.shape
  simp at hu
  rcases hu with rfl | rfl | rfl | rfl | rfl | rfl | rfl <;> rfl
 keep := fun ⟨vv, ov, av, h, h1, h2, h3⟩ hk hF => ⟨vv, ov, av, h, h1.keep ETok.ok hk hF, h2.keep EBr.ok hk hF, h3.keep EAc.ok hk hF⟩
 more := fun ⟨vv, ov, av, h, h1, h2, h3⟩ hS => ⟨vv, ov, av, h, h1.more ETok.ok fun k hk => hS k hk, h2.more EBr.ok fun k hk => hS k hk, h3.more EAc.ok fun k hk => hS k hk⟩
theorem op_rec {H : Type} {enc : TypeId × Value → H} {W : World} {spare : Nat → Bool} {held : Bool} : Opens ERc enc Tryd.prog W spare held 30 (fun r => ∀ a ∈ r.acts, Wfa a) := by
 refine (opens_struct Tryd.underlying30 (by kernel_rfl) (fop_cons rfl (opens_u8 Tryd.underlying5 (by kernel_rfl)) (fop_cons rfl (opens_int Tryd.underlying26 (by kernel_rfl)) (fop_cons rfl (opens_int Tryd.underlying26 (by kernel_rfl))
  (fop_cons rfl (opens_slice ETok.ok Tryd.underlying22 (by kernel_rfl) op_tok) (fop_cons rfl (opens_slice EBr.ok Tryd.underlying27 (by kernel_rfl) op_br) (fop_cons rfl (opens_slice EAc.ok Tryd.underlying28 (by kernel_rfl) op_act)
  (fop_one rfl (opens_bool Tryd.underlying4 (by kernel_rfl)))))))))).map rfl (fun x => ⟨x.1, x.2.1, x.2.2.1, x.2.2.2.1, x.2.2.2.2.1, x.2.2.2.2.2.1, x.2.2.2.2.2.2⟩) ?_ ?_
 ·rintro w S cs x ⟨c1, _, rfl, h1, c2, _, rfl, h2, c3, _, rfl, h3, c4, _, rfl, ⟨vv, h4, h4'⟩, c5, _, rfl, ⟨ov, h5, h5'⟩, c6, c7, rfl, ⟨av, h6, h6'⟩, h7⟩
  exact ⟨vv, ov, av, by rw [show c1 = _ from h1, show c2 = _ from h2, show c3 = _ from h3, h4, h5, h6, show c7 = _ from h7]; rfl, h4', h5', h6'⟩
 ·rintro x ⟨_, _, _, _, _, h6, _⟩
  exact h6.2
end Go.Proofs.YtggkidnlmaindaaDoor
namespace Go.Proofs.YtggkidnlmaindaaDoor
open Go.RowKit
abbrev byt (s : ByteArray) : List UInt8 := s.data.toList
theorem byt_len (s : ByteArray) : (byt s).length = s.size := Array.length_toList
def beN (n : Nat) : Nat → List UInt8
 | 0 => []
 | k + 1 => UInt8.ofNat (n / 256 ^ k) :: beN n k
theorem beN_len (n : Nat) : ∀ k, (beN n k).length = k
 | 0 => rfl
 | k + 1 => by rw [beN, List.length_cons, beN_len n k]
def u64 (n : Int) : Nat := (n % 18446744073709551616).toNat
theorem u64_lt (n : Int) : u64 n < 256 ^ 8 := by unfold u64; have : (256 ^ 8 : Nat) = 18446744073709551616 := by decide
                                                 omega
def encT (s : ByteArray) : List UInt8 := beN s.size 4 ++ byt s
theorem encT_len (s : ByteArray) : (encT s).length = 4 + s.size := by rw [encT, List.length_append, beN_len, byt_len]
mutual
def encV : V → List UInt8
 | .mk k n s l o => k :: (if k = 1 ∨ k = 2 then beN (u64 n) 8 else if k = 3 then encT s else if k = 4 then beN l.length 4 ++ encVs l else if k = 5 then beN o.length 4 ++ encFs o else [])
def encVs : List V → List UInt8
 | [] => []
 | v :: vs => encV v ++ encVs vs
def encF : F → List UInt8
 | .mk k v => encT k ++ encV v
def encFs : List F → List UInt8
 | [] => []
 | f :: fs => encF f ++ encFs fs
end
theorem encV_eq (v : V) : encV v = v.kind :: (if v.kind = 1 ∨ v.kind = 2 then beN (u64 v.n) 8 else if v.kind = 3 then encT v.s else if v.kind = 4 then beN v.l.length 4 ++ encVs v.l else if v.kind = 5 then beN v.o.length 4 ++ encFs v.o else []) := by
 cases v; rw [encV]; rfl
theorem encF_eq (f : F) : encF f = encT f.key ++ encV f.v := by cases f; rw [encF]; rfl
theorem encVs_append : ∀ (a b : List V), encVs (a ++ b) = encVs a ++ encVs b
 | [], b => by simp [encVs]
 | v :: vs, b => by rw [List.cons_append, encVs, encVs, encVs_append vs b, List.append_assoc]
theorem encFs_append : ∀ (a b : List F), encFs (a ++ b) = encFs a ++ encFs b
 | [], b => by simp [encFs]
 | v :: vs, b => by rw [List.cons_append, encFs, encFs, encFs_append vs b, List.append_assoc]
theorem encVs_take {l : List V} {j : Nat} (h : j < l.length) : encVs (l.take (j + 1)) = encVs (l.take j) ++ encV l[j] := by
 rw [List.take_succ_eq_append_getElem h, encVs_append, encVs, encVs, List.append_nil]
theorem encFs_take {l : List F} {j : Nat} (h : j < l.length) : encFs (l.take (j + 1)) = encFs (l.take j) ++ encF l[j] := by
 rw [List.take_succ_eq_append_getElem h, encFs_append, encFs, encFs, List.append_nil]
theorem encVs_le {l : List V} (j : Nat) : (encVs (l.take j)).length ≤ (encVs l).length := by
 have h : encVs l = encVs (l.take j) ++ encVs (l.drop j) := by rw [← encVs_append, List.take_append_drop]
 rw [h, List.length_append]; omega
theorem encFs_le {l : List F} (j : Nat) : (encFs (l.take j)).length ≤ (encFs l).length := by
 have h : encFs l = encFs (l.take j) ++ encFs (l.drop j) := by rw [← encFs_append, List.take_append_drop]
 rw [h, List.length_append]; omega
theorem strCells_byt (s : ByteArray) : Lib.strCells s = (byt s).map U8 := rfl
theorem own_append_str {P : Program} {w : World} {base : Nat} {t u T : TypeId} {S : BS} {v : Value} {xs : List UInt8} (ht : TyInfo P t T 1 1) (hz : ∀ i, P.info? T = some i → i.zero = some (.int .u8 0)) (hu : P.underlying u = some .string) (ty : TypeId) (hown : Own EU8 w base T S v xs) (s : ByteArray)
  (h63 : xs.length + s.size ≤ 140737488355328) (hbase : base ≤ w.heap.size) :
  ∃ v' w', (Builtin.append_ #[t, u] ty #[v, .string s]).run P w = .ok v' w' ∧ Own EU8 w' base T S v' (xs ++ byt s) ∧ w.grownBy w' v.ownBlock ∧ (v'.ownBlock = v.ownBlock ∨ ∃ g, v'.ownBlock = some g ∧ w.heap.size ≤ g) := by
 obtain ⟨i, z, hi, hz2, hsize, hby, _⟩ := ht.info
 obtain ⟨cs, hrow, hcs⟩ := hown.toRow EU8.ok
 have hcs := cells_U8 hcs
 subst hcs
 have hm : xs.length + s.size ≤ maxLen := by simp only [maxLen]; omega
 obtain ⟨v', w', h1, h2, h3, _⟩ := Lib.run_append_own_string (P := P) w base t u ty T i ht.under hu hi (hz i hi) hsize hby v xs.length (xs.map U8) hrow s hm h63 hbase
 refine ⟨v', w', h1, ?_, h3, ?_⟩
 ·rw [strCells_byt, ← List.map_append] at h2
  have e : xs.length + s.size = (xs ++ byt s).length := by rw [List.length_append, byt_len]
  rw [e] at h2
  exact Own.ofRow h2 (U8_cells _)
 ·rcases hrow.2 with ⟨rfl, h0⟩ | ⟨g, cap, cur, rfl, hbg, hg, hnc, hcm, hcs, htake⟩
  ·have hx : xs = [] := List.eq_nil_of_length_eq_zero h0
   subst hx
   obtain ⟨v2, w2, k1, k2, _, _⟩ := Lib.run_append_own_string (P := P) w w.heap.size t u ty T i ht.under hu hi (hz i hi) hsize hby (.slice none 0 0) 0 [] (World.ownsRow_nil _ _ _ _) s (by simpa using hm) (by simpa using h63) (Nat.le_refl _)
   rw [h1] at k1
   injection k1 with k1 k3
   subst k1 k3
   rcases k2.2 with ⟨rfl, _⟩ | ⟨g, cap, cur, rfl, hbg, _⟩
   ·exact .inl rfl
   ·exact .inr ⟨g, rfl, hbg⟩
  ·by_cases hroom : xs.length + s.size ≤ cap
   ·have hr := Lib.run_append_room_string (P := P) w t u ty T i ht.under hu hi hsize g xs.length cap cur hg s hroom (by have e1 : EU8.size = 1 := rfl; rw [e1] at hcs; omega)
    rw [h1] at hr
    injection hr with hr _
    exact .inl (by rw [hr]; rfl)
   ·have holds : ∀ j u, (xs.map U8)[j]? = some u → w.cell? ((⟨g, 0, none⟩ : Addr).add j) = some u := hrow.cells (g := g) rfl
    have hl : (xs.map U8).length = xs.length * i.size := by rw [hsize]; simp
    have hr := Lib.run_append_grow_string (P := P) w t u ty T i _ ht.under hu hi (hz i hi) ⟨g, 0, none⟩ xs.length cap (xs.map U8) hl holds s (by omega) (by omega) (growslice_fits (by omega) (by rw [hby, Nat.mul_one]; exact h63))
    rw [h1] at hr
    injection hr with hr _
    exact .inr ⟨w.heap.size, by rw [hr]; rfl, Nat.le_refl _⟩
theorem wpList_append_str {P : Program} {w : World} {base : Nat} {t u T : TypeId} {S : BS} {v : Value} {xs : List UInt8} {ops : Array Oper} {rest : List Oper} {o : Oper} {a : Act} {Q : Exit → Act → World → Prop} (hgd : o.guard = none) (s x : Operand) (str : ByteArray)
  (ht : TyInfo P t T 1 1) (hz : ∀ i, P.info? T = some i → i.zero = some (.int .u8 0)) (hu : P.underlying u = some .string) (ho : o.op = .call { callee := .builtin .append, args := #[s, x], argTypes := #[t, u] })
  (hs : a.eval s = v) (hx : a.eval x = .string str) (hown : Own EU8 w base T S v xs) (h63 : xs.length + str.size ≤ 140737488355328) (hbase : base ≤ w.heap.size)
  (h : ∀ v' w', Own EU8 w' base T S v' (xs ++ byt str) → Keep (fun k => v.ownBlock = some k) w w' → (v'.ownBlock = v.ownBlock ∨ ∃ g, v'.ownBlock = some g ∧ w.heap.size ≤ g) → wpList P ops Q rest (a.put o.dst v') w') : wpList P ops Q (o :: rest) a w := by
 obtain ⟨v', w', hrun, h1, h2, h3⟩ := own_append_str (P := P) (w := w) ht hz hu o.type hown str h63 hbase
 refine wpList_plain hgd fun K hK => ?_
 unfold Oper.wp execOp
 simp only [ho, resolve, invoke, builtin, Sem.run_bind, Sem.run_pure, Result.andThen_ok, List.map_toArray, List.map_cons, List.map_nil, hs, hx, hrun]
 exact hK _ _ (h v' w' h1 ((Keep.refl _ _).grown h2 (fun k e _ => e)) h3)
theorem zero_u8 : ∀ i, Tryd.prog.info? 5 = some i → i.zero = some (.int .u8 0) := by
 obtain ⟨i, h1, h2, _⟩ := info_parts (show (Tryd.prog.info? 5).map (fun i => (i.zero, i.size, i.bytes)) = some (some (.int .u8 0), 1, 1) from by kernel_rfl)
 exact fun j hj => Option.some.inj (h1.symm.trans hj) ▸ h2
abbrev TU8 : Nat := 5
abbrev TWR : Nat := 125
def WrAt (T : Nat) (W1 w : World) (b : Nat) (o : Option Nat) (xs : List UInt8) : Prop := ∃ X, Blk w b T #[X] ∧ Own EU8 w W1.heap.size TU8 (fun _ => False) X xs ∧ X.ownBlock = o ∧ b < W1.heap.size ∧ Keep (· = b) W1 w
def WTo (b : Nat) (o : Option Nat) (w : World) (o' : Option Nat) (w' : World) : Prop := Keep (fun k => k = b ∨ o = some k) w w' ∧ (o' = o ∨ ∃ g, o' = some g ∧ w.heap.size ≤ g)
def WrIs (T : Nat) (W1 w : World) (b : Nat) (o : Option Nat) (xs : List UInt8) (e : Ending) (w' : World) : Prop := e = .returned (.tuple #[]) ∧ ∃ o', WrAt T W1 w' b o' xs ∧ WTo b o w o' w'
theorem WTo.refl (b : Nat) (o : Option Nat) (w : World) : WTo b o w o w := ⟨Keep.refl _ _, .inl rfl⟩
theorem WTo.trans {b : Nat} {o o1 o2 : Option Nat} {w w1 w2 : World} (h : WTo b o w o1 w1) (h2 : WTo b o1 w1 o2 w2) : WTo b o w o2 w2 := by
 obtain ⟨k1, e1⟩ := h
 obtain ⟨k2, e2⟩ := h2
 refine ⟨k1.trans k2 fun k hk hh => ?_, ?_⟩
 ·rcases hh with h | h
  ·exact .inl h
  ·rcases e1 with e | ⟨g, e, hg⟩
   ·exact .inr (by rw [← e, h])
   ·rw [e] at h; injection h with h; omega
 ·have := k1.size
  rcases e2 with e | ⟨g, e, hg⟩
  ·rw [e]; exact e1
  ·exact .inr ⟨g, e, by omega⟩
theorem WrAt.lt {T : Nat} {W1 w : World} {b : Nat} {o : Option Nat} {xs : List UInt8} (h : WrAt T W1 w b o xs) {g : Nat} (hg : o = some g) : W1.heap.size ≤ g ∧ g < w.heap.size := by
 obtain ⟨X, _, h, e, _⟩ := h
 exact h.lt (by rw [e, hg])
theorem WrAt.low {T : Nat} {W1 w : World} {b : Nat} {o : Option Nat} {xs : List UInt8} (h : WrAt T W1 w b o xs) : b < W1.heap.size ∧ W1.heap.size ≤ w.heap.size := by
 obtain ⟨X, _, _, _, h1, h2⟩ := h
 exact ⟨h1, h2.size⟩
theorem WrAt.ext {T : Nat} {W1 w w' : World} {b : Nat} {o : Option Nat} {xs : List UInt8} (h : WrAt T W1 w b o xs) (he : Ext w w') : WrAt T W1 w' b o xs := by
 obtain ⟨X, h1, h2, h5, h3, h4⟩ := h
 exact ⟨X, h1.keep he id, h2.ext EU8.ok he, h5, h3, h4.ext he⟩
theorem WTo.ext {b : Nat} {o : Option Nat} {w w1 : World} (h : Ext w w1) : WTo b o w o w1 := ⟨h.mono fun _ _ x => x.elim, .inl rfl⟩
theorem WrAt.stored {T : Nat} {W1 w w' : World} {b : Nat} {xs ys : List UInt8} {X X' : Value} (hb : Blk w b T #[X]) (hown : Own EU8 w W1.heap.size TU8 (fun _ => False) X xs) (hlt : b < W1.heap.size) (hk : Keep (· = b) W1 w)
  (hown' : Own EU8 w' W1.heap.size TU8 (fun _ => False) X' ys) (hk' : Keep (fun k => X.ownBlock = some k) w w') (he : X'.ownBlock = X.ownBlock ∨ ∃ g, X'.ownBlock = some g ∧ w.heap.size ≤ g) :
  WrAt T W1 (w'.setCell ⟨b, 0, none⟩ X') b X'.ownBlock ys ∧ WTo b X.ownBlock w X'.ownBlock (w'.setCell ⟨b, 0, none⟩ X') := by
 have hge : ∀ k, X.ownBlock = some k → W1.heap.size ≤ k := fun k h => (hown.lt h).1
 have hs : Keep (· = b) w' (w'.setCell ⟨b, 0, none⟩ X') := (Keep.refl _ _).set1 0 _
 have hb' := hb.keep hk' (fun h => by have := hge _ h; omega)
 refine ⟨⟨X', ?_, hown'.keep EU8.ok hs (fun _ h => h.elim) (fun g hg e => by have := (hown'.lt hg).1; omega), rfl, hlt, (hk.trans hk' fun k h1 h2 => by have := hge _ h2; omega).trans hs fun _ _ h => h⟩, ?_, he⟩
 ·have := hb'.set_ 0 X'
  simpa using this
 ·exact (hk'.mono fun k _ h => .inr h).trans hs fun k _ h => .inl h
theorem WrAt.keep {T : Nat} {W1 w w' : World} {b : Nat} {o : Option Nat} {xs : List UInt8} (h : WrAt T W1 w b o xs) {o' : Option Nat} (ht : WTo b o w o' w') {S : BS} {u : Value} {x : V} (hu : VAt w S u x) (hS : ∀ k, S k → k < W1.heap.size ∧ k ≠ b) : VAt w' S u x :=
 hu.keep ht.1 fun k hk e => by
  have := hS k hk
  rcases e with e | e
  ·exact this.2 e
  ·have := (h.lt e).1; omega
set_option maxRecDepth 100000 in
theorem rnum_ok (W1 : World) (b : Nat) (n width : Nat) (hn : n < 18446744073709551616) (hw : width ≤ 8) (w : World) (o : Option Nat) (xs : List UInt8) (h : WrAt TWR W1 w b o xs) (hl : xs.length + width ≤ 140737488355328) :
  Calls Tryd.prog 92 #[.pointer (some ⟨b, 0, none⟩), .int .u64 n, .int .i64 width] w (WrIs TWR W1 w b o (xs ++ beN n width)) := by
 have H := hid h
 have HL := hid hl
 clear h hl
 have hwX : (width : Int) ≤ 8 := by omega
 go_enter Tryd.func92, Tryd.ntmps92
 go_wp2_with fail
 go_loopw [6] (fun i wr => ∃ (j : Nat) (ys : List UInt8) (o1 : Option Nat), j ≤ width ∧ i = .int .i64 ((j : Int) - 1) ∧ ys.length + j = width ∧ ys ++ beN n j = beN n width ∧ WrAt TWR W1 wr b o1 (xs ++ ys) ∧ WTo b o w o1 wr) (fun i _ => (intOf i + 1).toNat)
 case atStart => exact ⟨width, [], o, Nat.le_refl _, rfl, by simp, rfl, by rw [List.append_nil]; exact H.out, WTo.refl _ _ _⟩
 case round =>
  obtain ⟨j, ys, o1, hj, rfl, hyl, hys, hwr, hto⟩ := hrel
  have HTO := hid hto
  have HYL := hid hyl
  have HYS := hid hys
  have HWR := hid hwr
  clear hyl hys hwr hto
  rcases j with _ | j
  ·have e0 : ys = beN n width := by have := HYS.out; rw [beN, List.append_nil] at this; exact this
   subst e0
   clear hj
   go_wp2
   go_end0
   exact ⟨rfl, _, HWR.out, HTO.out⟩
  ·obtain ⟨X, hb, hown, rfl, hlt, hk⟩ := HWR.out
   obtain ⟨A, c, rfl, hlc, hcm⟩ := hown.shape
   have hnew := bytes_new (w := wr) (t := TU8) (f := (0, 0)) [UInt8.ofNat (n / 256 ^ j)] (by simp [maxLen])
   have hu : [UInt8.ofNat (n / 256 ^ j)].map U8 = [Value.int .u8 ((n : Int) / 2 ^ (8 * j) % 256)] := by
    simp only [List.map_cons, List.map_nil, U8, UInt8.toNat_ofNat']
    rw [show (256 : Nat) ^ j = 2 ^ (8 * j) by rw [Nat.pow_mul]]
    simp
   rw [hu] at hnew
   have hE1 : Ext wr (wr.alloc (.cells [Value.int .u8 ((n : Int) / 2 ^ (8 * j) % 256)].toArray TU8)) := (Keep.refl _ _).alloc _
   have HV := hid hnew
   have HO := hid (hown.ext EU8.ok hE1)
   have HB := hid (hb.keep hE1 id)
   have HK := hid (hk.ext hE1)
   have HBS := hid (show W1.heap.size ≤ (wr.alloc (.cells [Value.int .u8 ((n : Int) / 2 ^ (8 * j) % 256)].toArray TU8)).heap.size from by have := hk.size; simp; omega)
   have HOG := hid (fun g hg => hown.lt (g := g) hg)
   have HNX := hid (show (ys ++ [UInt8.ofNat (n / 256 ^ j)]) ++ beN n j = beN n width from by rw [List.append_assoc]; exact HYS.out)
   have HZ := hid (show (xs ++ ys).length + 1 ≤ 140737488355328 from by rw [List.length_append]; have := HL.out; have := HYL.out; omega)
   have HNL := hid (show (xs ++ ys).length + 1 = ((xs ++ ys) ++ [UInt8.ofNat (n / 256 ^ j)]).length from by rw [List.length_append (bs := [_])]; rfl)
   have q0 := hb.cell 0
   simp only [List.getElem?_toArray, List.getElem?_cons_zero] at q0
   have HE1 := hid hE1
   clear hnew hu hE1 hb hown hk
   have e1 : ((j + 1 : Nat) : Int) - 1 = (j : Int) := by omega
   have hjX : (j : Int) + 1 ≤ width := by omega
   rw [e1]
   clear e1 hlc hcm
   generalize UInt8.ofNat (n / 256 ^ j) = byte at *
   generalize hxy : xs ++ ys = xy at *
   go_wp2_with (at_builtin; refine wpList_own_append (E := EU8) _ rfl (.tmp 17) (.tmp 24) EU8.ok ty_u8 rfl rfl rfl HO.out HV.out ?c1 ?c2 ?c4 ?c3 ?_)
   case c1 => intro g hg; exact ⟨id, fun h => by have := HOG.out g hg; omega⟩
   case c2 => have := HZ.out; simp; omega
   case c4 => have := HZ.out; simp [maxLen]; omega
   case c3 => exact HBS.out
   intro v' w' h3 h6 h7
   obtain ⟨A', c', rfl, h4, h5⟩ := h3.shape
   have HW := hid (WrAt.stored HB.out HO.out hlt HK.out (own_u8 h3) h6 (h7.imp id fun h => ⟨_, h, by simp⟩))
   rw [show (xy ++ [byte]).length = xy.length + 1 by simp] at HW
   have hb2 : Blk w' b TWR _ := HB.out.keep h6 (fun h => by have := HOG.out _ h; omega)
   have f0 := hb2.frozen 0
   have q1 := hb2.cell 0
   simp only [List.getElem?_toArray, List.getElem?_cons_zero] at q1
   clear h3 h6 hb2 q0
   go_wp2_with fail
   exact ⟨⟨j, ys ++ [byte], _, by omega, rfl, by have := HYL.out; simp; omega, HNX.out, by rw [← List.append_assoc, hxy]; exact HW.out.1, HTO.out.trans ((WTo.ext HE1.out).trans HW.out.2)⟩, by simp [intOf]⟩
set_option maxRecDepth 100000 in
theorem rtext_ok (W1 : World) (b : Nat) (s : ByteArray) (hs : s.size < 4294967296) (w : World) (o : Option Nat) (xs : List UInt8) (h : WrAt TWR W1 w b o xs) (hl : xs.length + (4 + s.size) ≤ 140737488355328) :
  Calls Tryd.prog 93 #[.pointer (some ⟨b, 0, none⟩), .string s] w (WrIs TWR W1 w b o (xs ++ encT s)) := by
 have H := hid h
 have HL := hid hl
 have HS := hid hs
 have hsX : (s.size : Int) < 4294967296 := by omega
 clear h hl hs
 go_enter Tryd.func93, Tryd.ntmps93
 go_wp2_with fail
 refine (rnum_ok W1 b s.size 4 (by have := HS.out; omega) (by omega) w o xs H.out (by have := HL.out; omega)).mono ?_
 rintro e w1 ⟨rfl, o1, hw, hto⟩
 have HTO := hid hto
 clear hto
 obtain ⟨X, hb, hown, rfl, hlt, hk⟩ := hw
 obtain ⟨A, c, rfl, hlc, hcm⟩ := hown.shape
 have q0 := hb.cell 0
 simp only [List.getElem?_toArray, List.getElem?_cons_zero] at q0
 have HB := hid hb
 have HO := hid hown
 have HK := hid hk
 have HZ := hid (show (xs ++ beN s.size 4).length + s.size ≤ 140737488355328 from by rw [List.length_append, beN_len]; have := HL.out; omega)
 have HOG := hid (fun g hg => hown.lt (g := g) hg)
 have HSZ := hid hk.size
 clear hb hown hk hlc hcm
 generalize hxy : xs ++ beN s.size 4 = xy at *
 go_wp2_with (at_builtin; refine wpList_append_str rfl (.tmp 13) (.tmp 14) s ty_u8 zero_u8 Tryd.underlying9 rfl rfl rfl HO.out HZ.out HSZ.out ?_)
 intro v' w' h3 h6 h7
 obtain ⟨A', c', rfl, _, _⟩ := h3.shape
 have HW := hid (WrAt.stored HB.out HO.out hlt HK.out h3 h6 h7)
 have hb2 : Blk w' b TWR _ := HB.out.keep h6 (fun h => by have := HOG.out _ h; omega)
 have f0 := hb2.frozen 0
 have q1 := hb2.cell 0
 simp only [List.getElem?_toArray, List.getElem?_cons_zero] at q1
 clear h3 h6 hb2 q0
 go_wp2
 go_end0
 have := HW.out
 rw [List.length_append, byt_len] at this
 refine ⟨rfl, _, ?_, HTO.out.trans this.2⟩
 rw [encT, ← List.append_assoc, hxy]
 exact this.1
theorem encV_pos (v : V) : 0 < (encV v).length := by rw [encV_eq]; simp
theorem encVs_len : ∀ l : List V, l.length ≤ (encVs l).length
 | [] => by simp
 | v :: l => by rw [encVs, List.length_append, List.length_cons]; have := encV_pos v; have := encVs_len l; omega
theorem encFs_len : ∀ l : List F, l.length ≤ (encFs l).length
 | [] => by simp
 | f :: l => by rw [encFs, List.length_append, List.length_cons, encF_eq, List.length_append]; have := encV_pos f.v; have := encFs_len l; omega
def tailV (k : UInt8) (n : Int) (s : ByteArray) (l : List V) (o : List F) : List UInt8 :=
 if k = 1 ∨ k = 2 then beN (u64 n) 8 else if k = 3 then encT s else if k = 4 then beN l.length 4 ++ encVs l else if k = 5 then beN o.length 4 ++ encFs o else []
theorem encV_tail (v : V) : encV v = v.kind :: tailV v.kind v.n v.s v.l v.o := encV_eq v
set_option maxRecDepth 100000 in
theorem rvalue_any : ∀ (m : Nat) (x : V), x.size ≤ m → ∀ (W1 w : World) (b : Nat) (ob : Option Nat) (bs : List UInt8) (S : BS) (u : Value), WrAt TWR W1 w b ob bs → VAt w S u x → (∀ k, S k → k < W1.heap.size ∧ k ≠ b) → bs.length + (encV x).length ≤ 4000000000 →
  Calls Tryd.prog 81 #[.pointer (some ⟨b, 0, none⟩), u] w (WrIs TWR W1 w b ob (bs ++ encV x)) := by
 intro m
 induction m with
 | zero => intro x h; have := x.size_pos; omega
 | succ m ih =>
 intro x hsz W1 w b ob bs S u hwr hu hS hlen
 have hlen2 := V.size_eq x
 have HIH := hid ih
 have HLM := hid (fun (z : V) (hz : z ∈ x.l) => (by have := V.sizes_mem hz; omega : z.size ≤ m))
 have HOM := hid (fun (z : F) (hz : z ∈ x.o) => (by have := F.sizes_mem hz; omega : z.v.size ≤ m))
 have HS := hid hS
 rw [encV_tail] at hlen ⊢
 obtain ⟨l1, o1, rfl, h1, h2⟩ := hu
 obtain ⟨A1, c1, rfl, hc1, hm1⟩ := h1.shape
 obtain ⟨A2, c2, rfl, hc2, hm2⟩ := h2.shape
 unfold maxLen at hm1 hm2
 generalize x.kind = k at *
 generalize x.n = n at *
 generalize x.s = s at *
 generalize x.l = xs at *
 generalize x.o = xo at *
 have hb0 := Blk.new w TVAL #[U8 k, .int .i64 n, .string s, .slice A1 xs.length c1, .slice A2 xo.length c2]
 have hE : Ext w (w.alloc (.cells #[U8 k, .int .i64 n, .string s, .slice A1 xs.length c1, .slice A2 xo.length c2] TVAL)) := (Keep.refl _ _).alloc _
 have HNO := hid (show ¬ (w.heap.size = b ∨ ob = some w.heap.size) from fun h => by
  have := hwr.low
  rcases h with h | h
  ·omega
  ·have := (hwr.lt h).2; omega)
 have HSN := hid (show ∀ q, S q → ¬ (q = b ∨ ob = some q) from fun q hq h => by
  have := hS q hq
  rcases h with h | h
  ·exact this.2 h
  ·have := (hwr.lt h).1; omega)
 have HWR := hid (hwr.ext hE)
 have HB0 := hid hb0
 have HE := hid hE
 have H1 := hid (h1.ext EVal.ok hE)
 have H2 := hid (h2.ext EField.ok hE)
 have hlen : bs.length + (tailV k n s xs xo).length + 1 ≤ 4000000000 := by rw [List.length_cons] at hlen; omega
 have HL := hid hlen
 have HDN := hid (show bs ++ k :: tailV k n s xs xo = (bs ++ beN k.toNat 1) ++ tailV k n s xs xo from by
  have e : beN k.toNat 1 = [k] := by rw [beN, beN]; simp
  rw [e, List.append_assoc]; rfl)
 have HL2 := hid (show (bs ++ beN k.toNat 1).length + (tailV k n s xs xo).length ≤ 4000000000 from by rw [List.length_append, beN_len]; omega)
 have hkz : (k.toNat : Int) < 256 := by have := k.toNat_lt; omega
 have hun : IntKind.u64.wrap n = (u64 n : Int) := by simp only [IntKind.wrap, IntKind.bits, IntKind.signed, Bool.false_and, Bool.false_eq_true, if_false]; unfold u64; omega
 clear ih hlen2 hsz hS hlen hwr h1 h2 hb0 hE
 go_enter Tryd.func81, Tryd.ntmps81
 go_wp2_with fail
 generalize (w.alloc (.cells #[U8 k, .int .i64 n, .string s, .slice A1 xs.length c1, .slice A2 xo.length c2] TVAL)) = W0 at *
 refine (rnum_ok W1 b k.toNat 1 (by have := k.toNat_lt; omega) (by omega) W0 ob bs HWR.out (by have := HL.out; omega)).mono ?_
 rintro e w1 ⟨rfl, o1, hw, hto⟩
 have hx := HB0.out.keep hto.1 HNO.out
 have x0 := hx.cell 0
 have x1 := hx.cell 1
 have x2 := hx.cell 2
 have x3 := hx.cell 3
 have x4 := hx.cell 4
 simp only [List.getElem?_toArray, List.getElem?_cons_succ, List.getElem?_cons_zero] at x0 x1 x2 x3 x4
 have HTO := hid hto
 have HW := hid hw
 have HB1 := hid hx
 generalize bs ++ beN k.toNat 1 = bz at *
 clear hw hto hx HWR HL
 have hfin : ∀ (w2 : World) (o2 : Option Nat) (t : List UInt8), t = tailV k n s xs xo → WrAt TWR W1 w2 b o2 (bz ++ t) → WTo b ob W0 o2 w2 → WrIs TWR W1 w b ob (bs ++ k :: tailV k n s xs xo) (.returned (.tuple #[])) w2 :=
  fun w2 o2 t ht h1 h2 => ⟨rfl, o2, by rw [HDN.out]; exact ht ▸ h1, (WTo.ext HE.out).trans h2⟩
 have HFIN := hid hfin
 clear hfin HDN
 by_cases hk1 : k = 1
 ·subst hk1
  have HT := hid (show beN (u64 n) 8 = tailV 1 n s xs xo from by unfold tailV; rw [if_pos (by decide)])
  rw [← HT.out, beN_len] at HL2
  go_wp2_with fail
  refine (rnum_ok W1 b (u64 n) 8 (u64_lt n) (by omega) w1 o1 bz HW.out (by have := HL2.out; omega)).mono ?_
  rintro e w2 ⟨rfl, o2, hw2, hto2⟩
  have HR := hid (HFIN.out w2 o2 _ HT.out hw2 (HTO.out.trans hto2))
  clear hw2 hto2
  go_wp2
  go_end0
  exact HR.out
 by_cases hk2 : k = 2
 ·subst hk2
  have HT := hid (show beN (u64 n) 8 = tailV 2 n s xs xo from by unfold tailV; rw [if_pos (by decide)])
  rw [← HT.out, beN_len] at HL2
  go_wp2_with fail
  refine (rnum_ok W1 b (u64 n) 8 (u64_lt n) (by omega) w1 o1 bz HW.out (by have := HL2.out; omega)).mono ?_
  rintro e w2 ⟨rfl, o2, hw2, hto2⟩
  have HR := hid (HFIN.out w2 o2 _ HT.out hw2 (HTO.out.trans hto2))
  clear hw2 hto2
  go_wp2
  go_end0
  exact HR.out
 by_cases hk3 : k = 3
 ·subst hk3
  have HT := hid (show encT s = tailV 3 n s xs xo from by unfold tailV; rw [if_neg (by decide), if_pos rfl])
  rw [← HT.out, encT_len] at HL2
  go_wp2_with fail
  refine (rtext_ok W1 b s (by have := HL2.out; omega) w1 o1 bz HW.out (by have := HL2.out; omega)).mono ?_
  rintro e w2 ⟨rfl, o2, hw2, hto2⟩
  have HR := hid (HFIN.out w2 o2 _ HT.out hw2 (HTO.out.trans hto2))
  clear hw2 hto2
  go_wp2
  go_end0
  exact HR.out
 by_cases hk4 : k = 4
 ·subst hk4
  have HT := hid (show beN xs.length 4 ++ encVs xs = tailV 4 n s xs xo from by unfold tailV; rw [if_neg (by decide), if_neg (by decide), if_pos rfl])
  rw [← HT.out, List.length_append, beN_len] at HL2
  have HXL := hid (show xs.length < 4294967296 from by have := encVs_len xs; have := HL2.out; omega)
  clear x1 x2 x4
  go_wp2_with fail
  refine (rnum_ok W1 b xs.length 4 (by have := HXL.out; omega) (by omega) w1 o1 bz HW.out (by have := HL2.out; omega)).mono ?_
  rintro e w2 ⟨rfl, o2, hw2, hto2⟩
  have HT2 := hid (HTO.out.trans hto2)
  have HW2 := hid hw2
  clear hw2 hto2 x0 x3 HTO HW hkz
  go_wp2_with fail
  go_loopw [4] (fun i wr => ∃ (j : Nat) (o3 : Option Nat), j ≤ xs.length ∧ i = .int .i64 j ∧ WrAt TWR W1 wr b o3 ((bz ++ beN xs.length 4) ++ encVs (xs.take j)) ∧ WTo b ob W0 o3 wr) (fun i _ => xs.length - (intOf i).toNat)
  case atStart => exact ⟨0, o2, by omega, rfl, by rw [List.take_zero, encVs, List.append_nil]; exact HW2.out, HT2.out⟩
  case round =>
   obtain ⟨j, o3, hj, rfl, hwr, hto3⟩ := hrel
   have hx := HB0.out.keep hto3.1 HNO.out
   have x3 := hx.cell 3
   simp only [List.getElem?_toArray, List.getElem?_cons_succ, List.getElem?_cons_zero] at x3
   have HWr := hid hwr
   have HTr := hid hto3
   have HLr := hid (H1.out.keep EVal.ok hto3.1 HSN.out)
   clear hwr hto3 hx
   by_cases hlt : j < xs.length
   ·obtain ⟨b1, f1, d1, rfl, hb1, hs1, hr1, hc1'⟩ := HLr.out.at_ EVal.ok hlt
    obtain ⟨B1, n1, z1, B2, n2, z2, rfl, _, _, hva⟩ := EVal_cells hr1
    have p0 := hc1' 0 _ rfl
    have p1 := hc1' 1 _ rfl
    have p2 := hc1' 2 _ rfl
    have p3 := hc1' 3 _ rfl
    have p4 := hc1' 4 _ rfl
    have e5' : EVal.size = 5 := rfl
    simp only [e5', Nat.add_zero] at p0 p1 p2 p3 p4
    have HVA := hid hva
    have HXM := hid (HLM.out xs[j] (List.getElem_mem hlt))
    have HNX := hid (encVs_take hlt)
    have HLE := hid (encVs_le (l := xs) (j + 1))
    rw [HNX.out] at HLE
    have hjX : (j : Int) < xs.length := by omega
    clear hc1' hr1 hva e5' hs1 hb1
    generalize xs[j] = y at *
    go_wp2_with fail
    refine (HIH.out y HXM.out W1 wr b o3 _ S _ HWr.out HVA.out HS.out (by have := HL2.out; have := HLE.out; simp only [List.length_append, beN_len] at this ⊢; omega)).mono ?_
    rintro e w4 ⟨rfl, o4, hw4, hto4⟩
    have HW4 := hid hw4
    have HT4 := hid (HTr.out.trans hto4)
    clear hw4 hto4 x3 p0 p1 p2 p3 p4 HVA HWr HTr HLr
    go_wp2_with fail
    exact ⟨⟨j + 1, o4, by omega, by go_num, by rw [HNX.out, ← List.append_assoc]; exact HW4.out, HT4.out⟩, by simp [intOf]; omega⟩
   ·obtain rfl : j = xs.length := by omega
    have HR := hid (HFIN.out wr o3 (beN xs.length 4 ++ encVs xs) HT.out (by have := HWr.out; rw [List.take_length, List.append_assoc] at this; exact this) HTr.out)
    clear HLr HWr HTr
    go_wp2
    go_end0
    exact HR.out
 by_cases hk5 : k = 5
 ·subst hk5
  have HT := hid (show beN xo.length 4 ++ encFs xo = tailV 5 n s xs xo from by unfold tailV; rw [if_neg (by decide), if_neg (by decide), if_neg (by decide), if_pos rfl])
  rw [← HT.out, List.length_append, beN_len] at HL2
  have HXL := hid (show xo.length < 4294967296 from by have := encFs_len xo; have := HL2.out; omega)
  clear x1 x2 x3
  go_wp2_with fail
  refine (rnum_ok W1 b xo.length 4 (by have := HXL.out; omega) (by omega) w1 o1 bz HW.out (by have := HL2.out; omega)).mono ?_
  rintro e w2 ⟨rfl, o2, hw2, hto2⟩
  have HT2 := hid (HTO.out.trans hto2)
  have HW2 := hid hw2
  clear hw2 hto2 x0 x4 HTO HW hkz
  go_wp2_with fail
  go_loopw [5] (fun i wr => ∃ (j : Nat) (o3 : Option Nat), j ≤ xo.length ∧ i = .int .i64 j ∧ WrAt TWR W1 wr b o3 ((bz ++ beN xo.length 4) ++ encFs (xo.take j)) ∧ WTo b ob W0 o3 wr) (fun i _ => xo.length - (intOf i).toNat)
  case atStart => exact ⟨0, o2, by omega, rfl, by rw [List.take_zero, encFs, List.append_nil]; exact HW2.out, HT2.out⟩
  case round =>
   obtain ⟨j, o3, hj, rfl, hwr, hto3⟩ := hrel
   have hx := HB0.out.keep hto3.1 HNO.out
   have x4 := hx.cell 4
   simp only [List.getElem?_toArray, List.getElem?_cons_succ, List.getElem?_cons_zero] at x4
   have HWr := hid hwr
   have HTr := hid hto3
   have HLr := hid (H2.out.keep EField.ok hto3.1 HSN.out)
   clear hwr hto3 hx
   by_cases hlt : j < xo.length
   ·obtain ⟨b1, f1, d1, rfl, hb1, hs1, hr1, hc1'⟩ := HLr.out.at_ EField.ok hlt
    obtain ⟨lv1, ov1, rfl, ⟨D1, g1, rfl⟩, ⟨D2, g2, rfl⟩, hva⟩ := EField_cells hr1
    have p0 := hc1' 0 _ rfl
    have e5' : EField.size = 6 := rfl
    simp only [e5', Nat.add_zero] at p0
    have HXM := hid (HOM.out xo[j] (List.getElem_mem hlt))
    have HNX := hid (encFs_take hlt)
    have HLE := hid (encFs_le (l := xo) (j + 1))
    rw [HNX.out, encF_eq] at HLE
    have HBB := hid (show bz.length + (4 + ((encFs (xo.take j)).length + ((4 + xo[j].key.size) + (encV xo[j].v).length))) ≤ 4000000000 from by
     have := HL2.out; have := HLE.out; simp only [List.length_append, encT_len] at this ⊢; omega)
    have HKEY := hid (show xo[j].key.size < 4294967296 from by have := HBB.out; omega)
    have hjX : (j : Int) < xo.length := by omega
    have hjl : j < xo.length := hlt
    clear hc1' hr1 hva e5' hs1 hb1
    generalize hy : xo[j] = y at *
    go_wp2_with fail
    refine (rtext_ok W1 b y.key HKEY.out wr o3 _ HWr.out (by have := HBB.out; simp only [List.length_append, beN_len]; omega)).mono ?_
    rintro e w3 ⟨rfl, o4, hw4, hto4⟩
    have HT4 := hid (HTr.out.trans hto4)
    have hx := HB0.out.keep HT4.out.1 HNO.out
    have x4' := hx.cell 4
    simp only [List.getElem?_toArray, List.getElem?_cons_succ, List.getElem?_cons_zero] at x4'
    obtain ⟨b1', f1', d1', e1', hb1, hs1, hr1, hc1'⟩ := (H2.out.keep EField.ok HT4.out.1 HSN.out).at_ EField.ok hjl
    injection e1' with e1'
    injection e1' with e1' e2' _
    subst e1' e2'
    rw [hy] at hr1
    obtain ⟨lv1', ov1', rfl, ⟨D1', g1', rfl⟩, ⟨D2', g2', rfl⟩, hva⟩ := EField_cells hr1
    have p1 := hc1' 1 _ rfl
    have p2 := hc1' 2 _ rfl
    have p3 := hc1' 3 _ rfl
    have p4 := hc1' 4 _ rfl
    have p5 := hc1' 5 _ rfl
    have e5' : EField.size = 6 := rfl
    simp only [e5', Nat.add_zero] at p1 p2 p3 p4 p5
    have HVA := hid hva
    have HW4 := hid hw4
    clear hx hc1' hr1 hva e5' hs1 hb1 hw4 hto4 x4 p0 HWr HTr HLr
    go_wp2_with fail
    refine (HIH.out y.v HXM.out W1 w3 b o4 _ S _ HW4.out HVA.out HS.out (by have := HBB.out; simp only [List.length_append, beN_len, encT_len]; omega)).mono ?_
    rintro e w5 ⟨rfl, o5, hw5, hto5⟩
    have HW5 := hid hw5
    have HT5 := hid (HT4.out.trans hto5)
    clear hw5 hto5 x4' p1 p2 p3 p4 p5 HVA HW4 HT4
    go_wp2_with fail
    exact ⟨⟨j + 1, o5, by omega, by go_num, by rw [HNX.out, encF_eq, ← List.append_assoc, ← List.append_assoc]; exact HW5.out, HT5.out⟩, by simp [intOf]; omega⟩
   ·obtain rfl : j = xo.length := by omega
    have HR := hid (HFIN.out wr o3 (beN xo.length 4 ++ encFs xo) HT.out (by have := HWr.out; rw [List.take_length, List.append_assoc] at this; exact this) HTr.out)
    clear HLr HWr HTr
    go_wp2
    go_end0
    exact HR.out
 have HR := hid (HFIN.out w1 o1 [] (by unfold tailV; rw [if_neg (by rintro (h | h) <;> contradiction), if_neg hk3, if_neg hk4, if_neg hk5]) (by rw [List.append_nil]; exact HW.out) HTO.out)
 have kx1 : ((k.toNat : Int) == 1) = false := by rw [beq_eq_false_iff_ne]; intro h; exact hk1 (UInt8.toNat_inj.1 (show k.toNat = 1 by omega))
 have kx2 : ((k.toNat : Int) == 2) = false := by rw [beq_eq_false_iff_ne]; intro h; exact hk2 (UInt8.toNat_inj.1 (show k.toNat = 2 by omega))
 have kx3 : ((k.toNat : Int) == 3) = false := by rw [beq_eq_false_iff_ne]; intro h; exact hk3 (UInt8.toNat_inj.1 (show k.toNat = 3 by omega))
 have kx4 : ((k.toNat : Int) == 4) = false := by rw [beq_eq_false_iff_ne]; intro h; exact hk4 (UInt8.toNat_inj.1 (show k.toNat = 4 by omega))
 have kx5 : ((k.toNat : Int) == 5) = false := by rw [beq_eq_false_iff_ne]; intro h; exact hk5 (UInt8.toNat_inj.1 (show k.toNat = 5 by omega))
 go_wp2
 go_end0
 exact HR.out
mutual
def NAll (P : Int → Prop) : V → Prop
 | .mk _ n _ l o => P n ∧ NAlls P l ∧ NFAlls P o
def NAlls (P : Int → Prop) : List V → Prop
 | [] => True
 | v :: vs => NAll P v ∧ NAlls P vs
def NFAlls (P : Int → Prop) : List F → Prop
 | [] => True
 | .mk _ v :: fs => NAll P v ∧ NFAlls P fs
end
def NumT (ts : List Tk) (x : V) : Prop := ∀ P : Int → Prop, (∀ t ∈ ts, P t.n) → P 0 → P 1 → NAll P x
theorem NumT.sub {ts ts' : List Tk} {x : V} (h : NumT ts x) (hs : ∀ t ∈ ts, t ∈ ts') : NumT ts' x := fun P h1 h2 h3 => h P (fun t ht => h1 t (hs t ht)) h2 h3
def lightB (v : V) : Bool := v.snd && (decide (v.deep ≤ 16) && decide (v.weight ≤ 20000))
mutual
theorem encV_le13 : ∀ v : V, (encV v).length + 4 ≤ 13 * v.weight
 | .mk k n s l o => by
  have h1 := encVs_le13 l
  have h2 := encFs_le13 o
  rw [encV, V.weight]
  split
  ·simp [beN_len]; omega
  ·split
   ·simp [encT_len]; omega
   ·split
    ·simp [beN_len]; omega
    ·split
     ·simp [beN_len]; omega
     ·simp; omega
theorem encVs_le13 : ∀ l : List V, (encVs l).length ≤ 13 * V.weights l
 | [] => by simp [encVs, V.weights]
 | v :: l => by
  have h1 := encV_le13 v
  have h2 := encVs_le13 l
  rw [encVs, V.weights, List.length_append]; omega
theorem encFs_le13 : ∀ l : List F, (encFs l).length ≤ 13 * F.weights l
 | [] => by simp [encFs, F.weights]
 | .mk k v :: l => by
  have h1 := encV_le13 v
  have h2 := encFs_le13 l
  rw [encFs, encF, F.weights, F.weight, List.length_append, List.length_append, encT_len]; omega
end
theorem light_weight {v : V} (h : lightB v = true) : v.weight ≤ 20000 := by
 unfold lightB at h
 simp at h
 exact h.2.2
def valC (v : V) : Int := if lightB v then (if (encV v).length > 60000 then 3 else 0) else 1
def valB (v : V) : List UInt8 := if valC v = 0 then encV v else []
def bigB (v : V) : Bool := decide (valC v = 3) || decide (59000 < (valB v).length)
structure Wide (v : V) : Prop where
 size : v.size ≤ 1000000
 str : VStr BigR v
 weight : v.weight ≤ 4611686018427387904
end Go.Proofs.YtggkidnlmaindaaDoor
