/- AppFull, TiesC, MeetF: laid together. -/
import Derived.Test.YtioplgfopillnaaDoorMeB1
import Derived.Test.YtioplgfopillnaaDoorMeB31
import Derived.Test.YtioplgfopillnaaDoorMeB42
import Derived.Test.YtioplgfopillnaaDoorMeB39
import Derived.Test.YtioplgfopillnaaDoorMeB14
import Derived.Test.YtioplgfopillnaaDoorMeB26
set_option linter.unusedSimpArgs false
set_option linter.unusedVariables false
set_option maxHeartbeats 25600000
set_option maxRecDepth 20000
namespace Go.Proofs.YtioplgfopillnaaDoor
open Go.RowKit
theorem exec_append {P : Program} {ρ : Operand → Value} {o : Oper} {s x : Operand} {t : TypeId} {v y v' : Value} {w w' : World} (ho : o.op = .call { callee := .builtin .append, args := #[s, x], argTypes := #[t, t] }) (hs : ρ s = v) (hx : ρ x = y)
  (hrun : (Builtin.append_ #[t, t] o.type #[v, y]).run P w = .ok v' w') : (execOp ρ o).run P w = .ok (.value v') w' := by
 unfold execOp
 simp only [ho, resolve, invoke, builtin, Sem.run_bind, Sem.run_pure, Result.andThen_ok, List.map_toArray, List.map_cons, List.map_nil, hs, hx, hrun]
section
variable {P : Program} {α : Type} {E : El α} {w : World} {S S2 : BS} {t T : TypeId} {y : Value} {xs ys : List α} {bytes : Nat}
theorem app_ext (hE : E.Ok) (ht : TyInfo P t T E.size bytes) (ty : TypeId) {ad : Addr} (hv : Sl E w S (.slice (some ad) xs.length xs.length) xs) (hx0 : 0 < xs.length) (hy : Sl E w S2 y ys)
  (h63 : xs.length + ys.length ≤ maxLen) (hbytes : (xs.length + ys.length) * bytes ≤ 140737488355328) :
  ∃ v' w', (Builtin.append_ #[t, t] ty #[.slice (some ad) xs.length xs.length, y]).run P w = .ok v' w' ∧ Sl E w' (fun _ => True) v' (xs ++ ys) ∧ Ext w w' := by
 obtain ⟨i, z, hi, hz, hsize, hby, hzs⟩ := ht.info
 obtain ⟨cs, ⟨hl, A, c, e, _, _, hcell⟩, hcs⟩ := hv
 obtain ⟨ds, ⟨hl2, A2, c2, rfl, _, _, hcell2⟩, hds⟩ := hy
 injection e with e1 _ _
 subst e1
 obtain ⟨b, off, e, hS, hlt, hc⟩ := hcell hx0
 injection e with e
 subst e
 rcases Nat.eq_zero_or_pos ys.length with h0 | h0
 ·have hys : ys = [] := List.eq_nil_of_length_eq_zero h0
  subst hys
  have hdn : ds = [] := hds
  subst hdn
  refine ⟨.slice (some ⟨b, off, none⟩) xs.length xs.length, w, ?_, ?_, Keep.refl _ _⟩
  ·cases A2 <;> simp [Builtin.append_, run_underlying ht.under, sizeOf, typeInfo, hi, Builtin.lenOf, Builtin.firstCells, storeCells, loadCells, loadCellsFrom]
  ·rw [List.append_nil]
   exact ⟨cs, ⟨hl, _, _, rfl, Nat.le_refl _, by simpa using h63, fun _ => ⟨b, off, rfl, trivial, hlt, hc⟩⟩, hcs.more hE fun _ _ _ => trivial⟩
 ·obtain ⟨b2, off2, rfl, _, hlt2, hc2⟩ := hcell2 h0
  have hadd : ∀ (b off k : Nat), (⟨b, off, none⟩ : Addr).add k = ⟨b, off + k, none⟩ := fun b off k => by
   unfold Addr.add; split
   ·rename_i h; rw [h]; rfl
   ·rfl
  have hr := run_append_grow (P := P) w t ty T i z ht.under hi hz ⟨b, off, none⟩ xs.length xs.length cs (by rw [hl, hsize]) (fun j u hu => by rw [hadd]; exact hc j u hu) ⟨b2, off2, none⟩ ys.length c2 ds (by rw [hl2, hsize]) (fun j u hu => by rw [hadd]; exact hc2 j u hu)
   (by omega) (by unfold maxLen at h63; omega) (growslice_fits (by omega) (by rw [hby]; exact hbytes))
  have hge := grownCap_ge w (xs.length + ys.length) xs.length T
  have hcm := grownCap_le_maxLen w (xs.length + ys.length) xs.length T h63
  have hE2 : Ext w (w.drew.alloc (.cells (cs.toArray ++ ds.toArray ++ Builtin.zeroCells z.cells (grownCap w (xs.length + ys.length) xs.length T - (xs.length + ys.length))) T)) := (Keep.drew (Keep.refl _ _)).alloc _
  refine ⟨_, _, hr, ⟨cs ++ ds, ⟨by rw [List.length_append, hl, hl2, List.length_append, Nat.add_mul], _, _, by rw [List.length_append], by rw [List.length_append]; exact hge, hcm, fun _ => ⟨w.heap.size, 0, rfl, trivial, by simp, fun j u hu => ?_⟩⟩, ((hcs.keep hE hE2 fun _ _ h => h).more hE fun _ _ _ => trivial).append ((hds.keep hE hE2 fun _ _ h => h).more hE fun _ _ _ => trivial)⟩, hE2⟩
  rw [Nat.zero_add]
  have hb := (Blk.new w.drew T (cs.toArray ++ ds.toArray ++ Builtin.zeroCells z.cells (grownCap w (xs.length + ys.length) xs.length T - (xs.length + ys.length)))).cell j
  have hj := (List.getElem?_eq_some_iff.1 hu).1
  rw [Array.getElem?_append_left (by simp; simpa using hj)] at hb
  refine (show _ = _ from hb).trans ?_
  simpa using hu
end
def OutD (K : Nat) (y : V) (n m : Nat) (v : Value) (w : World) : Prop := K ≤ n ∧ ∃ A c A' c', v = .tuple #[.agg #[U8 y.kind, .int .i64 y.n, .string y.s, .slice A y.l.length c, .slice A' y.o.length c'], .bool true] ∧ VAt w (fun q => q < K ∨ (n ≤ q ∧ q < m)) (.agg #[U8 y.kind, .int .i64 y.n, .string y.s, .slice A y.l.length c, .slice A' y.o.length c']) y
theorem OutD.ext {k : Nat} {y : V} {n m : Nat} {v : Value} {w w' : World} (h : OutD k y n m v w) (he : Ext w w') : OutD k y n m v w' := by
 obtain ⟨h0, A, c, A', c', e, h⟩ := h
 exact ⟨h0, A, c, A', c', e, h.ext he⟩
theorem DoneIs.out {w w' : World} {K : Nat} {S : BS} {z : V} {e : Ending} (h : DoneIs w S z e w') (hK : K ≤ w.heap.size) (hS : ∀ q, S q → q < K) : ∃ u, e = .returned u ∧ Ext w w' ∧ OutD K z w.heap.size w'.heap.size u w' := by
 obtain ⟨A, a, B, b, rfl, h1, hE⟩ := h
 refine ⟨_, rfl, hE, hK, A, a, B, b, rfl, h1.more fun k hk h2 => ?_⟩
 rcases h2 with h2 | h2
 ·exact .inl (hS k h2)
 ·exact .inr ⟨h2, hk⟩
theorem OutD.fill {y : V} {w0 w : World} {n m g k : Nat} {a0 a1 a2 a3 a4 b : Value} (hE : Ext w0 w) (hb : BoxQ w0.heap.size g k (.pointer (some ⟨g, 0, none⟩)) w) (hv : OutD w0.heap.size y n m (.tuple #[.agg #[a0, a1, a2, a3, a4], b]) w) (hap : k ≤ n ∨ m ≤ g) :
  Ext w0 (fillW w g a0 a1 a2 a3 a4) ∧ Blk (fillW w g a0 a1 a2 a3 a4) g TVAL #[a0, a1, a2, a3, a4] ∧ VAt (fillW w g a0 a1 a2 a3 a4) (fun _ => True) (.agg #[a0, a1, a2, a3, a4]) y := by
 obtain ⟨h0, A, c, A', c', h4, h5⟩ := hv
 simp only [Value.tuple.injEq, Array.mk.injEq, List.cons.injEq, Value.agg.injEq, and_true] at h4
 obtain ⟨⟨rfl, rfl, rfl, rfl, rfl⟩, _⟩ := h4
 have hk : Keep (· = g) w (fillW w g (U8 y.kind) (.int .i64 y.n) (.string y.s) (.slice A y.l.length c) (.slice A' y.o.length c')) := set5_keep w g 0 _ _ _ _ _
 refine ⟨hE.trans hk fun q hq e => by have := hb.1; omega, set5_to hb.2.2.2 rfl _ _ _ _ _, (h5.keep hk fun q hq e => ?_).more fun _ _ _ => trivial⟩
 subst e
 have h1 := hb.1
 have h2 := hb.2.2.1
 omega
def FullC (l : List Cp) (v : Value) (w : World) : Prop := ∃ ad, v = .slice (some ad) l.length l.length ∧ Sl ECp w (fun _ => True) v l
theorem FullC.ext {l : List Cp} {v : Value} {w w' : World} (h : FullC l v w) (he : Ext w w') : FullC l v w' := by
 obtain ⟨ad, e, h⟩ := h
 exact ⟨ad, e, h.ext ECp.ok he⟩
def SomeC (l : List Cp) (v : Value) (w : World) : Prop := Sl ECp w (fun _ => True) v l
theorem SomeC.ext {l : List Cp} {v : Value} {w w' : World} (h : SomeC l v w) (he : Ext w w') : SomeC l v w' := Sl.ext ECp.ok h he
theorem ty_cp : TyInfo Tryd.prog 37 TCMP 12 168 := by
 obtain ⟨i, h1, h2, h3, h4⟩ := info_parts (show (Tryd.prog.info? TCMP).map (fun i => (i.zero, i.size, i.bytes)) = some (some (.agg #[.int .u8 0, .slice none 0 0, .string ⟨#[]⟩, .int .i64 0, .int .i64 0, .int .i64 0, .int .u8 0, .int .i64 0, .string ⟨#[]⟩, .slice none 0 0, .slice none 0 0, .string ⟨#[]⟩]), 12, 168) from by kernel_rfl)
 exact ⟨Tryd.underlying37, i, _, h1, h2, h3, h4, rfl⟩
theorem full_new {w : World} {c : Cp} {pv lv ov : Value} (h1 : Sl ESt w (fun _ => True) pv c.path) (h2 : Sl EVal w (fun _ => True) lv c.v.l) (h3 : Sl EField w (fun _ => True) ov c.v.o) :
  FullC [c] (.slice (some ⟨w.heap.size, 0, none⟩) 1 1) (w.alloc (.cells (cpCells c pv lv ov) TCMP)) := by
 have hE : Ext w (w.alloc (.cells (cpCells c pv lv ov) TCMP)) := (Keep.refl _ _).alloc _
 refine ⟨_, rfl, ⟨cpL c pv lv ov, ⟨rfl, _, 1, rfl, Nat.le_refl _, by simp [maxLen], fun _ => ⟨w.heap.size, 0, rfl, trivial, (Blk.new _ _ _).lt, fun j u hu => ?_⟩⟩, Cells.single ⟨pv, lv, ov, rfl, h1.ext ESt.ok hE, h2.ext EVal.ok hE, h3.ext EField.ok hE⟩⟩⟩
 rw [Nat.zero_add, (Blk.new w TCMP (cpCells c pv lv ov)).cell]
 simpa using hu
theorem full_cat {w : World} {c : Cp} {ad : Addr} {u2 : Value} {cs : List Cp} (h1 : FullC [c] (.slice (some ad) 1 1) w) (h2 : SomeC cs u2 w) (hn : cs.length ≤ 10) :
  ∃ v' w', (Builtin.append_ #[37, 37] 37 #[.slice (some ad) 1 1, u2]).run Tryd.prog w = .ok v' w' ∧ SomeC ([c] ++ cs) v' w' ∧ Ext w w' := by
 obtain ⟨ad', e, h1⟩ := h1
 injection e with e _ _
 injection e with e
 subst e
 obtain ⟨v', w', h3, h4, h5⟩ := app_ext ECp.ok ty_cp 37 h1 (by simp) h2 (by simp [maxLen]; omega) (by simp; omega)
 exact ⟨v', w', h3, h4, h5⟩
theorem getV_sm7 : ∀ (p : List St) (v y : V), v.size ≤ 1000 → (∀ s ∈ p, StOk s) → getV v p = some y → ∀ s ∈ p, 0 ≤ s.i ∧ s.i ≤ 1000
 | [], v, y, _, _, _ => fun s hs => by cases hs
 | s :: p, v, y, hv, hk, h => by
  simp only [getV] at h
  cases h1 : stepV v s with
  | none => rw [h1] at h; cases h
  | some loc =>
   rw [h1] at h
   simp only at h
   cases h2 : v.child? loc with
   | none => rw [h2] at h; cases h
   | some z =>
    rw [h2] at h
    intro t ht
    rcases List.mem_cons.1 ht with rfl | ht
    ·rcases hk t List.mem_cons_self with ⟨hl, _, h0⟩ | ⟨_, h0⟩
     ·refine ⟨h0, ?_⟩
      unfold stepV at h1
      rw [if_pos hl] at h1
      split at h1
      ·rename_i hc
       have h3 := V.sizes_len v.l
       have h4 := V.size_eq v
       omega
      ·cases h1
     ·omega
    ·exact getV_sm7 p z y (Nat.le_trans (child_size h2) hv) (fun s hs => hk s (List.mem_cons_of_mem _ hs)) h t ht
theorem asz7 (l : List UInt8) : (textOf l).size = l.length := by unfold textOf; simp [ByteArray.size]
theorem sm00 : Sm 0 := by unfold Sm; decide
theorem sz00 : (⟨#[]⟩ : ByteArray).size ≤ 100000 := by decide
theorem OneOk.bd7 {v : V} {c : Cp} (h : OneOk v c) (hv : v.size ≤ 241) (hsv : SV v) : Bd c := by
 obtain ⟨x, hg, h5, hst, h⟩ := h
 have hp := getV_sm7 c.path v x (by omega) hst hg
 have hxz : x.size ≤ 241 := Nat.le_trans (getV_size _ _ _ hg) hv
 have hsx := getV_sv _ _ _ hsv hg
 have hps : ∀ s ∈ c.path, Sm s.i := fun s hs => by have := hp s hs; unfold Sm; omega
 rcases h with ⟨hk, n, _, h⟩ | ⟨hk, k, i, n, s, ht, h⟩ | ⟨hk, k, i, j, y, hl, _, h', h⟩ | ⟨hk, k, key, y, hf, _, h', h⟩
 ·exact ⟨by rw [h]; exact sm00, by rw [h]; exact sm00, by rw [h]; exact fun h => absurd (show famN (1 : UInt8).toNat = 3 from h) (by decide), by rw [h]; exact sz00, hps⟩
 ·have hxs : x.s.size ≤ 1000 := by
   rcases (SV_iff x).1 hsx with ⟨h | h | h | h | h | h, _⟩ <;> first | (exact absurd (hk.symm.trans h.1) (by decide)) | (have := h.2.2.1.2; omega)
  rcases ht with ⟨rfl, ⟨q, rfl, hq⟩, rfl, l, hl, _, rfl⟩ | ⟨rfl, ⟨q, m, rfl, hq, rfl, hm, hqm⟩, rfl⟩
  ·exact ⟨by rw [h]; show Sm (q : Int); unfold Sm; omega, by rw [h]; exact sm00, by rw [h]; intro _; show Tm (q : Int) ∧ Tm 0; unfold Tm; omega, by rw [h]; show (textOf _).size ≤ _; rw [asz7]; simp; omega, hps⟩
  ·exact ⟨by rw [h]; show Sm (q : Int); unfold Sm; omega, by rw [h]; exact sm00, by rw [h]; intro _; show Tm (q : Int) ∧ Tm (m : Int); unfold Tm; omega, by rw [h]; exact sz00, hps⟩
 ·have hxl : x.l.length ≤ 1000 := by
   have h1 := V.size_eq x
   have h2 := V.sizes_len x.l
   omega
  obtain ⟨q, rfl, ⟨rfl, hq, rfl⟩ | ⟨rfl, hq, rfl, _⟩ | ⟨rfl, hq, rfl⟩ | ⟨rfl, hq, _, r, rfl, hr⟩⟩ := hl
  ·exact ⟨by rw [h]; show Sm (q : Int); unfold Sm; omega, by rw [h]; exact sm00, by rw [h]; exact fun h => absurd (show famN (4 : UInt8).toNat = 3 from h) (by decide), by rw [h]; exact sz00, hps⟩
  ·exact ⟨by rw [h]; show Sm (q : Int); unfold Sm; omega, by rw [h]; exact sm00, by rw [h]; exact fun h => absurd (show famN (5 : UInt8).toNat = 3 from h) (by decide), by rw [h]; exact sz00, hps⟩
  ·exact ⟨by rw [h]; show Sm (q : Int); unfold Sm; omega, by rw [h]; exact sm00, by rw [h]; exact fun h => absurd (show famN (6 : UInt8).toNat = 3 from h) (by decide), by rw [h]; exact sz00, hps⟩
  ·exact ⟨by rw [h]; show Sm (q : Int); unfold Sm; omega, by rw [h]; show Sm (r : Int); unfold Sm; omega, by rw [h]; exact fun h => absurd (show famN (7 : UInt8).toNat = 3 from h) (by decide), by rw [h]; exact sz00, hps⟩
 ·rcases hf with ⟨_, rfl | ⟨rfl, _⟩⟩
  ·exact ⟨by rw [h]; exact sm00, by rw [h]; exact sm00, by rw [h]; exact fun h => absurd (show famN (2 : UInt8).toNat = 3 from h) (by decide), by rw [h]; exact sz00, hps⟩
  ·exact ⟨by rw [h]; exact sm00, by rw [h]; exact sm00, by rw [h]; exact fun h => absurd (show famN (3 : UInt8).toNat = 3 from h) (by decide), by rw [h]; exact sz00, hps⟩
def TurnsTo (l : List Cp) (x y : Cp) (left : Bool) : Prop := ∀ (w : World) (S S2 : BS) (u t : Value), CAt w S u x → CAt w S2 t y → Calls Tryd.prog 13 #[u, t, .bool left] w fun e w' => ∃ v, e = .returned v ∧ Ext w w' ∧ SomeC l v w'
theorem turns_to {x y : Cp} {left : Bool} (hf : Fit x) (bx : Bd x) (by_ : Bd y) (b : Bool) (hb : b = true ↔ y.path <+: x.path) : TurnsTo (turnC b x y left) x y left := by
 intro w S S2 u t hx hy
 refine (turn_list w S S2 u t x y left hx hy hf bx by_ b hb).mono ?_
 rintro e w' ⟨v, rfl, h1, h2⟩
 exact ⟨v, rfl, h2, h1.more ECp.ok fun _ _ _ => trivial⟩
structure MeetAll (w0 : World) (v z : V) (X Y : Cp) (left : Bool) (T1 T2 : List Cp) : Prop where
 one : DoesL w0 v ([X] ++ T1) z
 two : DoesL w0 v ([Y] ++ T2) z
 t1 : TurnsTo T1 Y X (!left)
 t2 : TurnsTo T2 X Y left
 l1 : T1.length ≤ 10
 l2 : T2.length ≤ 10
theorem meet_all {w0 : World} (hva : ValAny w0) (hD : DecAny w0) {v : V} (hv : SV v) (hz : v.size ≤ 241) {X Y : Cp} (hX : OneOk v X) (hY : OneOk v Y) (left : Bool) : ∃ z T1 T2, MeetAll w0 v z X Y left T1 T2 := by
 obtain ⟨b1, hb1⟩ : ∃ b : Bool, b = true ↔ X.path <+: Y.path := by
  by_cases h : X.path <+: Y.path
  ·exact ⟨true, by simp [h]⟩
  ·exact ⟨false, by simp [h]⟩
 obtain ⟨b2, hb2⟩ : ∃ b : Bool, b = true ↔ Y.path <+: X.path := by
  by_cases h : Y.path <+: X.path
  ·exact ⟨true, by simp [h]⟩
  ·exact ⟨false, by simp [h]⟩
 obtain ⟨z, h1, h2, _⟩ := meets_all hva hD hv hz hX hY left b1 b2 hb1 hb2
 exact ⟨z, _, _, h1, h2, turns_to hY.small (hY.bd7 hz hv) (hX.bd7 hz hv) b1 hb1, turns_to hX.small (hX.bd7 hz hv) (hY.bd7 hz hv) b2 hb2, Nat.le_trans (turnC_len _ _ _ _) (by decide), Nat.le_trans (turnC_len _ _ _ _) (by decide)⟩
end Go.Proofs.YtioplgfopillnaaDoor
