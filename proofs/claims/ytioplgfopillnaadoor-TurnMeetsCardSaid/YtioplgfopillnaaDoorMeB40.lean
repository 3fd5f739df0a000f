/- MeetC, MeetD: laid together. -/
import Derived.Test.YtioplgfopillnaaDoorMeB31
import Derived.Test.YtioplgfopillnaaDoorMeB38
import Derived.Test.YtioplgfopillnaaDoorMeB39
set_option linter.unusedSimpArgs false
set_option linter.unusedVariables false
set_option maxHeartbeats 25600000
set_option maxRecDepth 20000
namespace Go.Proofs.YtioplgfopillnaaDoor
open Go.RowKit
def AscB (s : ByteArray) : Prop := ∀ b ∈ bys s, b.toNat < 128
theorem AscB.asc {s : ByteArray} (h : AscB s) (hz : s.size ≤ 1000) : Asc9 s := ⟨fun j hj => h _ (by show s.data[j] ∈ s.data.toList; exact Array.getElem_mem_toList hj), hz⟩
theorem Asc9.b {s : ByteArray} (h : Asc9 s) : AscB s := fun b hb => by
 obtain ⟨j, hj, rfl⟩ := List.getElem_of_mem hb
 exact h.1 j hj
def CanX (x : V) (c : Cp) : Prop :=
 (x.kind = 2 ∧ c.kind = 1) ∨ (x.kind = 3 ∧ Asc9 x.s ∧ TextC x.s.size c ∧ AscB c.s ∧ c.s.size ≤ 100) ∨ (x.kind = 4 ∧ checkL x.l.length c.kind c.i c.j = 0) ∨ (x.kind = 5 ∧ Rise x.o ∧ (c.kind = 2 ∨ (c.kind = 3 ∧ fieldIs x.o c.key = true)))
theorem CanX.k2 {x : V} {c : Cp} (hk : x.kind = 2) (h : CanX x c) : c.kind = 1 := by
 rcases h with ⟨_, h⟩ | ⟨h, _⟩ | ⟨h, _⟩ | ⟨h, _⟩
 ·exact h
 all_goals (rw [hk] at h; exact absurd h (by decide))
theorem CanX.k3 {x : V} {c : Cp} (hk : x.kind = 3) (h : CanX x c) : Asc9 x.s ∧ TextC x.s.size c ∧ AscB c.s ∧ c.s.size ≤ 100 := by
 rcases h with ⟨h, _⟩ | ⟨_, h⟩ | ⟨h, _⟩ | ⟨h, _⟩
 case inr.inl => exact h
 all_goals (rw [hk] at h; exact absurd h (by decide))
theorem CanX.k4 {x : V} {c : Cp} (hk : x.kind = 4) (h : CanX x c) : checkL x.l.length c.kind c.i c.j = 0 := by
 rcases h with ⟨h, _⟩ | ⟨h, _⟩ | ⟨_, h⟩ | ⟨h, _⟩
 case inr.inr.inl => exact h
 all_goals (rw [hk] at h; exact absurd h (by decide))
theorem CanX.k5 {x : V} {c : Cp} (hk : x.kind = 5) (h : CanX x c) : Rise x.o ∧ (c.kind = 2 ∨ (c.kind = 3 ∧ fieldIs x.o c.key = true)) := by
 rcases h with ⟨h, _⟩ | ⟨h, _⟩ | ⟨h, _⟩ | ⟨_, h⟩
 case inr.inr.inr => exact h
 all_goals (rw [hk] at h; exact absurd h (by decide))
def doX (x : V) (c : Cp) : V :=
 if c.kind = 1 then .mk x.kind (IntKind.i64.wrap (x.n + c.n)) x.s x.l x.o
 else if c.kind = 2 ∨ c.kind = 3 then withO x (fldR (.mk c.key c.v) (c.kind.toNat == 3) x.o)
 else if c.kind = 8 ∨ c.kind = 9 then .mk x.kind x.n (textD x.s c) x.l x.o
 else .mk x.kind x.n x.s ((doL x.l ⟨c.kind, c.i, c.j, c.v⟩).getD x.l) x.o
def LDo (x : V) (q : List St) (c : Cp) (z : V) : Prop := ∃ y, getV x q = some y ∧ CanX y c ∧ putV x q (doX y c) = some z
def LDoL : V → List (List St × Cp) → V → Prop
 | x, [], z => z = x
 | x, (q, c) :: r, z => ∃ y, LDo x q c y ∧ LDoL y r z
theorem LDo.here {x : V} {c : Cp} (h : CanX x c) : LDo x [] c (doX x c) := ⟨x, rfl, h, rfl⟩
theorem LDo.here_eq {x z : V} {c : Cp} (h : LDo x [] c z) : CanX x c ∧ z = doX x c := by
 obtain ⟨y, h1, h2, h3⟩ := h
 simp only [getV, Option.some.injEq] at h1
 subst h1
 simp only [putV, Option.some.injEq] at h3
 exact ⟨h2, h3.symm⟩
theorem LDoL.one {x z : V} {q : List St} {c : Cp} (h : LDo x q c z) : LDoL x [(q, c)] z := ⟨z, h, rfl⟩
theorem doX_1 {x : V} {c : Cp} (h : c.kind = 1) : doX x c = .mk x.kind (IntKind.i64.wrap (x.n + c.n)) x.s x.l x.o := by unfold doX; rw [if_pos h]
theorem doX_23 {x : V} {c : Cp} (h : c.kind = 2 ∨ c.kind = 3) : doX x c = withO x (fldR (.mk c.key c.v) (c.kind.toNat == 3) x.o) := by
 unfold doX; rw [if_neg (by rcases h with h | h <;> rw [h] <;> decide), if_pos h]
theorem doX_89 {x : V} {c : Cp} (h : c.kind = 8 ∨ c.kind = 9) : doX x c = .mk x.kind x.n (textD x.s c) x.l x.o := by
 unfold doX; rw [if_neg (by rcases h with h | h <;> rw [h] <;> decide), if_neg (by rcases h with h | h <;> rw [h] <;> decide), if_pos h]
theorem doX_l {x : V} {c : Cp} (h : checkL x.l.length c.kind c.i c.j = 0) : ∃ ys, doL x.l ⟨c.kind, c.i, c.j, c.v⟩ = some ys ∧ doX x c = .mk x.kind x.n x.s ys x.o := by
 obtain ⟨l', h1, _, _⟩ := do_F x.l ⟨c.kind, c.i, c.j, c.v⟩ h
 refine ⟨l', h1, ?_⟩
 have hk : c.kind = 4 ∨ c.kind = 5 ∨ c.kind = 6 ∨ c.kind = 7 := by rcases check_ok h with h | h | h | h <;> simp [h.1]
 unfold doX
 rw [if_neg (by rcases hk with h | h | h | h <;> rw [h] <;> decide), if_neg (by rcases hk with h | h | h | h <;> rw [h] <;> decide), if_neg (by rcases hk with h | h | h | h <;> rw [h] <;> decide), h1]
 rfl
theorem check_kind {n : Nat} {k : UInt8} {i j : Int} (h : checkL n k i j = 0) : k = 4 ∨ k = 5 ∨ k = 6 ∨ k = 7 := by rcases check_ok h with h | h | h | h <;> simp [h.1]
theorem wrap_pair (n a b : Int) : IntKind.i64.wrap (IntKind.i64.wrap (n + a) + b) = IntKind.i64.wrap (IntKind.i64.wrap (n + b) + a) := by
 rw [IntKind.wrap_i64, IntKind.wrap_i64, IntKind.wrap_i64, IntKind.wrap_i64]; omega
theorem textC_asc {s : ByteArray} {c : Cp} (hs : AscB s) (hc : AscB c.s) (h : TextC s.size c) : AscB (textD s c) := by
 intro b hb
 rcases h with ⟨h, _⟩ | ⟨h, _⟩
 ·rw [textD_8 s h] at hb
  unfold insT at hb
  rcases List.mem_append.1 hb with hb | hb
  ·exact hs b (List.mem_of_mem_take hb)
  ·rcases List.mem_append.1 hb with hb | hb
   ·exact hc b hb
   ·exact hs b (List.mem_of_mem_drop hb)
 ·rw [textD_9 s h] at hb
  unfold delT at hb
  rcases List.mem_append.1 hb with hb | hb
  ·exact hs b (List.mem_of_mem_take hb)
  ·exact hs b (List.mem_of_mem_drop hb)
theorem textC_size {s : ByteArray} {c : Cp} (h : TextC s.size c) : (textD s c).size ≤ s.size + c.s.size := by
 rcases h with ⟨h, i, h1, h2⟩ | ⟨h, i, m, h1, h2, h3, h4⟩
 ·rw [ins_size h (by omega)]; exact Nat.le_refl _
 ·rw [del_size h (by omega)]; omega
theorem text_done {c : Cp} (hc : AscB c.s) (hcz : c.s.size ≤ 100) : ∀ (l : List (Int × Int)) (x : V) (z : ByteArray), x.kind = 3 → AscB x.s → x.s.size + l.length * 100 ≤ 1000 → TDoL c x.s l z →
  LDoL x (l.map fun q => ([], { c with i := q.1, n := q.2 })) (.mk x.kind x.n z x.l x.o)
 | [], x, z, hk, hs, hz, h => by
  cases x
  have h : z = _ := h
  subst h
  rfl
 | p :: ps, x, z, hk, hs, hz, h => by
  obtain ⟨h1, h2⟩ := h
  have hz : x.s.size + (ps.length + 1) * 100 ≤ 1000 := hz
  have hk8 : ({ c with i := p.1, n := p.2 } : Cp).kind = 8 ∨ ({ c with i := p.1, n := p.2 } : Cp).kind = 9 := h1.elim (fun h => .inl h.1) fun h => .inr h.1
  have hsz := textC_size h1
  have hsz : (textD x.s { c with i := p.1, n := p.2 }).size ≤ x.s.size + c.s.size := hsz
  refine ⟨_, LDo.here (.inr (.inl ⟨hk, hs.asc (by omega), h1, hc, hcz⟩)), ?_⟩
  rw [doX_89 hk8]
  exact text_done hc hcz ps (.mk x.kind x.n (textD x.s { c with i := p.1, n := p.2 }) x.l x.o) z hk (textC_asc hs hc h1) (by show (textD x.s { c with i := p.1, n := p.2 }).size + _ ≤ 1000; omega) h2
theorem list_done (c : Cp) : ∀ (l : List (Int × Int)) (x : V) (p : List V), x.kind = 4 → doneL x.l (l.map fun q => (⟨c.kind, q.1, q.2, c.v⟩ : Cm V)) = some p →
  LDoL x (l.map fun q => ([], { c with i := q.1, j := q.2 })) (.mk x.kind x.n x.s p x.o)
 | [], x, p, hk, h => by
  cases x
  simp only [List.map_nil, doneL, Option.some.injEq] at h
  subst h
  rfl
 | q :: qs, x, p, hk, h => by
  rw [List.map_cons, doneL] at h
  cases h1 : doL x.l (⟨c.kind, q.1, q.2, c.v⟩ : Cm V) with
  | none => rw [h1] at h; cases h
  | some l' =>
   rw [h1] at h
   have hck : checkL x.l.length c.kind q.1 q.2 = 0 := by
    by_cases e : checkL x.l.length c.kind q.1 q.2 = 0
    ·exact e
    ·unfold doL at h1; rw [if_neg e] at h1; cases h1
   obtain ⟨ys, h2, h3⟩ := @doX_l x { c with i := q.1, j := q.2 } hck
   have h2 : doL x.l (⟨c.kind, q.1, q.2, c.v⟩ : Cm V) = some ys := h2
   rw [h1] at h2
   injection h2 with h2
   subst h2
   refine ⟨_, LDo.here (.inr (.inr (.inl ⟨hk, hck⟩))), ?_⟩
   rw [h3]
   exact list_done c qs (.mk x.kind x.n x.s l' x.o) p hk h
theorem turnQ_map (a b : Cp) (left : Bool) : (turnQ ⟨a.kind, a.i, a.j, a.v⟩ ⟨b.kind, b.i, b.j, b.v⟩ left : List (Cm V)) = (turnL a.kind a.i a.j b.kind b.i b.j left).toList.map fun q => (⟨a.kind, q.1, q.2, a.v⟩ : Cm V) := by
 unfold turnQ
 cases turnL a.kind a.i a.j b.kind b.i b.j left <;> rfl
theorem doneL_cons {α : Type} {l l1 p : List α} {c : Cm α} {cs : List (Cm α)} (h1 : doL l c = some l1) (h : doneL l (c :: cs) = some p) : doneL l1 cs = some p := by
 rw [doneL, h1] at h; exact h
theorem withO_with (x : V) (o o' : List F) : withO (withO x o) o' = withO x o' := by cases x; rfl
theorem obj_do {x : V} {c : Cp} (hk : c.kind = 2 ∨ c.kind = 3) : (doX x c).kind = x.kind ∧ (doX x c).o = fldR (.mk c.key c.v) (c.kind.toNat == 3) x.o := by
 rw [doX_23 hk]; cases x; exact ⟨rfl, rfl⟩
theorem obj_two {x : V} {a b : Cp} (ha : a.kind = 2 ∨ a.kind = 3) (hb : b.kind = 2 ∨ b.kind = 3) : doX (doX x a) b = withO x (fldR (.mk b.key b.v) (b.kind.toNat == 3) (fldR (.mk a.key a.v) (a.kind.toNat == 3) x.o)) := by
 rw [doX_23 hb, (obj_do ha).2, doX_23 ha, withO_with]
theorem can_obj {x : V} {a b : Cp} (hr : Rise x.o) (hx : x.kind = 5) (ha : a.kind = 2 ∨ a.kind = 3) (hb : b.kind = 2 ∨ (b.kind = 3 ∧ fieldIs x.o b.key = true)) (h : b.kind = 2 ∨ a.key ≠ b.key) : CanX (doX x a) b := by
 have h1 := obj_do (x := x) ha
 have hr2 : Rise (doX x a).o := by rw [h1.2]; exact fldR_rise _ _ _ hr
 refine .inr (.inr (.inr ⟨h1.1.trans hx, hr2, ?_⟩))
 rcases h with h | h
 ·exact .inl h
 ·rcases hb with hb | ⟨hb, hf⟩
  ·exact .inl hb
  ·refine .inr ⟨hb, ?_⟩
   rw [fieldIs_lk hr] at hf
   rw [fieldIs_lk hr2, h1.2, lk_fldR, if_neg (show ¬ (F.mk a.key a.v).key = b.key from h)]
   exact hf
theorem withO_ext {x : V} {o o' : List F} (h1 : Rise o) (h2 : Rise o') (h : ∀ K, lk K o = lk K o') : withO x o = withO x o' := by rw [lk_inj h1 h2 h]
theorem fam_23 {k : UInt8} (h : k = 2 ∨ k = 3) : famN k.toNat = 5 := by rcases h with rfl | rfl <;> decide
theorem fam_47 {k : UInt8} (h : k = 4 ∨ k = 5 ∨ k = 6 ∨ k = 7) : famN k.toNat = 4 := by rcases h with rfl | rfl | rfl | rfl <;> decide
theorem fam_89 {k : UInt8} (h : k = 8 ∨ k = 9) : famN k.toNat = 3 := by rcases h with rfl | rfl <;> decide
theorem besL_2 {x y : Cp} {left : Bool} (hx : famN x.kind.toNat = 2) (hy : famN y.kind.toNat = 2) : besL x y left = [x] := by
 unfold besL; rw [if_neg (by rw [hx, hy]; simp), if_neg (by rw [hx]; decide), if_neg (by rw [hx]; decide), if_neg (by rw [hx]; rintro ⟨h, _⟩; exact absurd h (by decide))]
theorem besL_5 {x y : Cp} {left : Bool} (hx : famN x.kind.toNat = 5) (hy : famN y.kind.toNat = 5) : besL x y left = if x.key = y.key ∧ (x.kind.toNat == 2 && (left || y.kind.toNat == 3)) = false then [] else [x] := by
 unfold besL
 rw [if_neg (by rw [hx, hy]; simp), if_neg (by rw [hx]; decide), if_neg (by rw [hx]; decide)]
 by_cases h : x.key = y.key
 ·by_cases h2 : (x.kind.toNat == 2 && (left || y.kind.toNat == 3)) = false
  ·rw [if_pos ⟨hx, keyB.2 h, h2⟩, if_pos ⟨h, h2⟩]
  ·rw [if_neg fun e => h2 e.2.2, if_neg fun e => h2 e.2]
 ·rw [if_neg fun e => h (keyB.1 e.2.1), if_neg fun e => h e.1]
abbrev hereL (l : List Cp) : List (List St × Cp) := l.map fun c => ([], c)
theorem meet_here (x : V) (X Y : Cp) (left : Bool) (hX : CanX x X) (hY : CanX x Y) (hz : x.s.size ≤ 400) : ∃ z, LDoL (doX x X) (hereL (besL Y X (!left))) z ∧ LDoL (doX x Y) (hereL (besL X Y left)) z := by
 rcases hX with ⟨hk, h1⟩ | ⟨hk, hs, h1, h2, h3⟩ | ⟨hk, h1⟩ | ⟨hk, hr, h1⟩
 ·have g1 := hY.k2 hk
  have fx : famN X.kind.toNat = 2 := by rw [h1]; decide
  have fy : famN Y.kind.toNat = 2 := by rw [g1]; decide
  rw [besL_2 fx fy, besL_2 fy fx, doX_1 h1, doX_1 g1]
  refine ⟨_, LDoL.one (LDo.here (.inl ⟨hk, g1⟩)), ?_⟩
  have : doX (.mk x.kind (IntKind.i64.wrap (x.n + X.n)) x.s x.l x.o) Y = doX (.mk x.kind (IntKind.i64.wrap (x.n + Y.n)) x.s x.l x.o) X := by
   rw [doX_1 h1, doX_1 g1]
   show V.mk x.kind (IntKind.i64.wrap (IntKind.i64.wrap (x.n + X.n) + Y.n)) x.s x.l x.o = V.mk x.kind (IntKind.i64.wrap (IntKind.i64.wrap (x.n + Y.n) + X.n)) x.s x.l x.o
   rw [wrap_pair]
  rw [this]
  exact LDoL.one (LDo.here (.inl ⟨hk, h1⟩))
 ·obtain ⟨_, g1, g2, g3⟩ := hY.k3 hk
  have kx : X.kind = 8 ∨ X.kind = 9 := h1.elim (fun h => .inl h.1) fun h => .inr h.1
  have ky : Y.kind = 8 ∨ Y.kind = 9 := g1.elim (fun h => .inl h.1) fun h => .inr h.1
  have fx := fam_89 kx
  have fy := fam_89 ky
  rw [besL_three (by rw [fx, fy]; simp) fy, besL_three (by rw [fx, fy]; simp) fx, doX_89 kx, doX_89 ky]
  have ex : Lib.runeCount X.s = X.s.size := (h2.asc (by omega)).count
  have ey : Lib.runeCount Y.s = Y.s.size := (g2.asc (by omega)).count
  obtain ⟨z, q1, q2⟩ := text_meet x.s X Y left X.s.size Y.s.size (fun _ => rfl) (fun _ => rfl) h1 g1
  have l1 := tturn_len Y.kind Y.i Y.n X.kind X.i X.n (X.s.size : Nat) (!left)
  have l2 := tturn_len X.kind X.i X.n Y.kind Y.i Y.n (Y.s.size : Nat) left
  have z1 := textC_size h1
  have z2 := textC_size g1
  have r1 := text_done g2 g3 _ (.mk x.kind x.n (textD x.s X) x.l x.o) z hk (textC_asc hs.b h2 h1) (by show (textD x.s X).size + _ ≤ 1000; omega) q1
  have r2 := text_done h2 h3 _ (.mk x.kind x.n (textD x.s Y) x.l x.o) z hk (textC_asc hs.b g2 g1) (by show (textD x.s Y).size + _ ≤ 1000; omega) q2
  rw [ex, ey]
  refine ⟨.mk x.kind x.n z x.l x.o, ?_, ?_⟩
  ·unfold hereL; rw [List.map_map]; exact r1
  ·unfold hereL; rw [List.map_map]; exact r2
 ·have g1 := hY.k4 hk
  have fx := fam_47 (check_kind h1)
  have fy := fam_47 (check_kind g1)
  rw [besL_four (by rw [fx, fy]; simp) fy, besL_four (by rw [fx, fy]; simp) fx]
  obtain ⟨lx, hlx, ex⟩ := doX_l h1
  obtain ⟨ly, hly, ey⟩ := doX_l g1
  obtain ⟨p, p1, p2, _⟩ := tp1 x.l ⟨X.kind, X.i, X.j, X.v⟩ ⟨Y.kind, Y.i, Y.j, Y.v⟩ left h1 g1
  rw [turnQ_map] at p1 p2
  have p1 := doneL_cons hlx p1
  have p2 := doneL_cons hly p2
  rw [ex, ey]
  refine ⟨.mk x.kind x.n x.s p x.o, ?_, ?_⟩
  ·unfold hereL; rw [List.map_map]; exact list_done Y _ (.mk x.kind x.n x.s lx x.o) p hk p1
  ·unfold hereL; rw [List.map_map]; exact list_done X _ (.mk x.kind x.n x.s ly x.o) p hk p2
 ·obtain ⟨_, g1⟩ := hY.k5 hk
  have kx : X.kind = 2 ∨ X.kind = 3 := h1.elim .inl fun h => .inr h.1
  have ky : Y.kind = 2 ∨ Y.kind = 3 := g1.elim .inl fun h => .inr h.1
  rw [besL_5 (fam_23 kx) (fam_23 ky), besL_5 (fam_23 ky) (fam_23 kx)]
  have rX : Rise (fldR (.mk X.key X.v) (X.kind.toNat == 3) x.o) := fldR_rise _ _ _ hr
  have rY : Rise (fldR (.mk Y.key Y.v) (Y.kind.toNat == 3) x.o) := fldR_rise _ _ _ hr
  by_cases he : X.key = Y.key
  ·rcases kx with kx | kx <;> rcases ky with ky | ky
   ·cases left with
    | true =>
     rw [if_pos ⟨he.symm, by rw [kx, ky]; decide⟩, if_neg (by rw [kx, ky]; simp)]
     refine ⟨_, rfl, ?_⟩
     have : doX x X = doX (doX x Y) X := by
      rw [obj_two (.inl ky) (.inl kx), doX_23 (.inl kx)]
      refine withO_ext rX (fldR_rise _ _ _ rY) fun K => ?_
      simp only [lk_fldR, F.key, F.v, kx, ky]
      by_cases e : X.key = K
      ·simp [e]
      ·simp [e, show ¬ Y.key = K from he ▸ e]
     rw [this]
     exact LDoL.one (LDo.here (can_obj hr hk (.inl ky) h1 (.inl kx)))
    | false =>
     rw [if_neg (by rw [kx, ky]; simp), if_pos ⟨he, by rw [kx, ky]; decide⟩]
     refine ⟨_, ?_, rfl⟩
     have : doX x Y = doX (doX x X) Y := by
      rw [obj_two (.inl kx) (.inl ky), doX_23 (.inl ky)]
      refine withO_ext rY (fldR_rise _ _ _ rX) fun K => ?_
      simp only [lk_fldR, F.key, F.v, kx, ky]
      by_cases e : X.key = K
      ·simp [e, show Y.key = K from he ▸ e]
      ·simp [e, show ¬ Y.key = K from he ▸ e]
     rw [this]
     exact LDoL.one (LDo.here (can_obj hr hk (.inl kx) g1 (.inl ky)))
   ·rw [if_pos ⟨he.symm, by rw [kx, ky]; simp⟩, if_neg (by rw [kx, ky]; simp)]
    refine ⟨_, rfl, ?_⟩
    have : doX x X = doX (doX x Y) X := by
     rw [obj_two (.inr ky) (.inl kx), doX_23 (.inl kx)]
     refine withO_ext rX (fldR_rise _ _ _ rY) fun K => ?_
     simp only [lk_fldR, F.key, F.v, kx, ky]
     by_cases e : X.key = K
     ·simp [e]
     ·simp [e, show ¬ Y.key = K from he ▸ e]
    rw [this]
    exact LDoL.one (LDo.here (can_obj hr hk (.inr ky) h1 (.inl kx)))
   ·rw [if_neg (by rw [kx, ky]; simp), if_pos ⟨he, by rw [kx, ky]; simp⟩]
    refine ⟨_, ?_, rfl⟩
    have : doX x Y = doX (doX x X) Y := by
     rw [obj_two (.inr kx) (.inl ky), doX_23 (.inl ky)]
     refine withO_ext rY (fldR_rise _ _ _ rX) fun K => ?_
     simp only [lk_fldR, F.key, F.v, kx, ky]
     by_cases e : X.key = K
     ·simp [e, show Y.key = K from he ▸ e]
     ·simp [e, show ¬ Y.key = K from he ▸ e]
    rw [this]
    exact LDoL.one (LDo.here (can_obj hr hk (.inr kx) g1 (.inl ky)))
   ·rw [if_pos ⟨he.symm, by rw [kx, ky]; simp⟩, if_pos ⟨he, by rw [kx, ky]; simp⟩]
    refine ⟨_, rfl, ?_⟩
    show doX x X = doX x Y
    rw [doX_23 (.inr kx), doX_23 (.inr ky)]
    refine withO_ext rX rY fun K => ?_
    simp only [lk_fldR, F.key, F.v, kx, ky]
    by_cases e : X.key = K
    ·simp [e, show Y.key = K from he ▸ e]
    ·simp [e, show ¬ Y.key = K from he ▸ e]
  ·rw [if_neg fun e => he e.1.symm, if_neg fun e => he e.1]
   refine ⟨_, LDoL.one (LDo.here (can_obj hr hk kx g1 (.inr he))), ?_⟩
   have : doX (doX x X) Y = doX (doX x Y) X := by
    rw [obj_two kx ky, obj_two ky kx]
    refine withO_ext (fldR_rise _ _ _ rX) (fldR_rise _ _ _ rY) fun K => ?_
    simp only [lk_fldR, F.key, F.v]
    by_cases e : X.key = K
    ·simp [e, show ¬ Y.key = K from fun h => he (e.trans h.symm)]
    ·simp [e]
   rw [this]
   exact LDoL.one (LDo.here (can_obj hr hk ky h1 (.inr fun h => he h.symm)))
theorem getV_cons {x y : V} {s : St} {r : List St} {loc : Loc} (h1 : stepV x s = some loc) (h2 : x.child? loc = some y) : getV x (s :: r) = getV y r := by simp only [getV, h1, h2]
theorem putV_cons {x y a : V} {s : St} {r : List St} {loc : Loc} (h1 : stepV x s = some loc) (h2 : x.child? loc = some y) : putV x (s :: r) a = (putV y r a).map (x.put loc) := by simp only [putV, h1, h2]
theorem LDo.step {x z : V} {s : St} {r : List St} {c : Cp} (h : LDo x (s :: r) c z) : ∃ loc y y', stepV x s = some loc ∧ x.child? loc = some y ∧ LDo y r c y' ∧ z = x.put loc y' := by
 obtain ⟨u, h1, h2, h3⟩ := h
 cases e : stepV x s with
 | none => simp only [getV, e] at h1; cases h1
 | some loc =>
  obtain ⟨y, hy⟩ := stepV_child e
  rw [getV_cons e hy] at h1
  rw [putV_cons e hy, Option.map_eq_some_iff] at h3
  obtain ⟨y', h4, h5⟩ := h3
  exact ⟨loc, y, y', rfl, hy, ⟨u, h1, h2, h4⟩, h5.symm⟩
theorem LDo.stepI {x y y' : V} {s : St} {r : List St} {c : Cp} {loc : Loc} (h1 : stepV x s = some loc) (h2 : x.child? loc = some y) (h : LDo y r c y') : LDo x (s :: r) c (x.put loc y') := by
 obtain ⟨u, h3, h4, h5⟩ := h
 exact ⟨u, by rw [getV_cons h1 h2]; exact h3, h4, by rw [putV_cons h1 h2, h5]; rfl⟩
theorem turn_set {k : UInt8} {i j a : Int} (hk : k = 4 ∨ k = 5 ∨ k = 6 ∨ k = 7) : turnL k i j 6 a 0 true = some (i, j) := by
 have h' : ∀ {p q : Int}, ¬ p = q → ¬ q = p := fun h e => h e.symm
 rcases hk with rfl | rfl | rfl | rfl <;> by_cases h : i = a
 all_goals first | (subst h; simp [turnL, knownL, gapL, moveL, targetL, atL]) | simp [turnL, knownL, gapL, moveL, targetL, atL, h, h' h]
theorem set_turn {k : UInt8} {i j a : Int} (hk : k = 4 ∨ k = 5 ∨ k = 6 ∨ k = 7) : turnL 6 a 0 k i j false = if (atL k i j a).2 = true then some ((atL k i j a).1, 0) else none := by
 have h' : ∀ {p q : Int}, ¬ p = q → ¬ q = p := fun h e => h e.symm
 rcases hk with rfl | rfl | rfl | rfl <;> by_cases h : a = i
 all_goals first | (subst h; simp [turnL, knownL, gapL, moveL, targetL, atL]) | simp [turnL, knownL, gapL, moveL, targetL, atL, h, h' h]
theorem turnQ_set {k : UInt8} {i j a : Int} {x y : V} (hk : k = 4 ∨ k = 5 ∨ k = 6 ∨ k = 7) : (turnQ ⟨k, i, j, x⟩ ⟨6, a, 0, y⟩ true : List (Cm V)) = [⟨k, i, j, x⟩] := by
 unfold turnQ; rw [turn_set hk]; rfl
theorem turnQ_on {k : UInt8} {i j a : Int} {x y : V} (hk : k = 4 ∨ k = 5 ∨ k = 6 ∨ k = 7) : (turnQ ⟨6, a, 0, y⟩ ⟨k, i, j, x⟩ (!true) : List (Cm V)) = if (atL k i j a).2 = true then [⟨6, (atL k i j a).1, 0, y⟩] else [] := by
 unfold turnQ
 rw [Bool.not_true, set_turn hk]
 split <;> rfl
theorem doL_set {l p : List V} {a : Int} {y : V} (h : doL l ⟨6, a, 0, y⟩ = some p) : 0 ≤ a ∧ a < l.length ∧ p = l.set a.toNat y := by
 unfold doL at h
 by_cases e : checkL l.length 6 a 0 = 0
 ·rw [if_pos e, if_neg (show ¬ (6 : UInt8) = 4 from by decide), if_neg (show ¬ (6 : UInt8) = 5 from by decide), if_pos rfl] at h
  rcases check_ok e with h1 | h1 | h1 | h1
  ·exact absurd h1.1 (by decide)
  ·exact absurd h1.1 (by decide)
  ·exact ⟨h1.2.1, h1.2.2, (Option.some.inj h).symm⟩
  ·exact absurd h1.1 (by decide)
 ·rw [if_neg e] at h; cases h
theorem doneL_one {α : Type} {l p : List α} {c : Cm α} (h : doneL l [c] = some p) : doL l c = some p := by
 rw [doneL] at h
 cases e : doL l c with
 | none => rw [e] at h; cases h
 | some l' => rw [e] at h; exact h
theorem list_above {l l1 : List V} {k : UInt8} {i j a : Int} {v y : V} (y' : V) (hk : k = 4 ∨ k = 5 ∨ k = 6 ∨ k = 7) (h1 : doL l ⟨k, i, j, v⟩ = some l1) (ha : 0 ≤ a) (hy : l[a.toNat]? = some y) :
  ((atL k i j a).2 = true → 0 ≤ (atL k i j a).1 ∧ (atL k i j a).1 < l1.length ∧ l1[(atL k i j a).1.toNat]? = some y ∧ doL (l.set a.toNat y') ⟨k, i, j, v⟩ = some (l1.set (atL k i j a).1.toNat y')) ∧
  ((atL k i j a).2 = false → doL (l.set a.toNat y') ⟨k, i, j, v⟩ = some l1) := by
 have hlt := (List.getElem?_eq_some_iff.1 hy).1
 have hck : checkL l.length k i j = 0 := by
  by_cases e : checkL l.length k i j = 0
  ·exact e
  ·unfold doL at h1; rw [if_neg e] at h1; cases h1
 have hc6 : checkL l.length 6 a 0 = 0 := check_of (.inr (.inr (.inl ⟨rfl, ha, by omega⟩)))
 have hdo : ∀ z : V, doL l ⟨6, a, 0, z⟩ = some (l.set a.toNat z) := fun z => by
  unfold doL; rw [if_pos hc6, if_neg (show ¬ (6 : UInt8) = 4 from by decide), if_neg (show ¬ (6 : UInt8) = 5 from by decide), if_pos rfl]
 have key : ∀ z : V, ∃ p, doneL l1 (if (atL k i j a).2 = true then [⟨6, (atL k i j a).1, 0, z⟩] else []) = some p ∧ doL (l.set a.toNat z) ⟨k, i, j, v⟩ = some p := fun z => by
  obtain ⟨p, p1, p2, _⟩ := tp1 l ⟨k, i, j, v⟩ ⟨6, a, 0, z⟩ true hck hc6
  rw [turnQ_set hk] at p2
  rw [turnQ_on hk] at p1
  exact ⟨p, doneL_cons h1 p1, doneL_one (doneL_cons (hdo z) p2)⟩
 refine ⟨fun ht => ?_, fun hf => ?_⟩
 ·obtain ⟨p, p1, p2⟩ := key y'
  rw [if_pos ht] at p1
  obtain ⟨q1, q2, q3⟩ := doL_set (doneL_one p1)
  obtain ⟨p0, p3, p4⟩ := key y
  rw [if_pos ht] at p3
  obtain ⟨_, _, q4⟩ := doL_set (doneL_one p3)
  have hself : l.set a.toNat y = l := by
   obtain ⟨h2, h3⟩ := List.getElem?_eq_some_iff.1 hy
   rw [← h3]; exact List.set_getElem_self _
  rw [hself, h1] at p4
  have e : l1 = l1.set (atL k i j a).1.toNat y := (Option.some.inj p4).trans q4
  refine ⟨q1, q2, ?_, by rw [p2, q3]⟩
  rw [e, List.getElem?_set_self (by omega)]
 ·obtain ⟨p, p1, p2⟩ := key y'
  rw [if_neg (by rw [hf]; decide)] at p1
  rw [p2]
  exact p1.symm
theorem thrL_5 {s : St} {y : Cp} (h : famN y.kind.toNat = 5) (hl : s.list = false) : thrL s y = (s.i, s.key.toList != y.key.toList) := by unfold thrL; rw [if_pos ⟨h, hl⟩]
theorem thrL_4 {s : St} {y : Cp} (h : famN y.kind.toNat = 4) (hl : s.list = true) : thrL s y = atL y.kind y.i y.j s.i := by
 unfold thrL; rw [if_neg (by rw [h]; rintro ⟨h, _⟩; exact absurd h (by decide)), if_pos ⟨h, hl⟩]
def thrQ (s : St) (r : List St) (X Y : Cp) : List (List St × Cp) := if (thrL s X).2 = true then [({ s with i := (thrL s X).1 } :: r, Y)] else []
theorem can_keys {x x' : V} {c : Cp} (hr : Rise x'.o) (hx : x.kind = 5) (hx' : x'.kind = 5) (hf : fieldIs x'.o c.key = fieldIs x.o c.key) (h : CanX x c) : CanX x' c := by
 rcases h with ⟨h, _⟩ | ⟨h, _⟩ | ⟨h, _⟩ | ⟨_, _, h⟩
 ·rw [hx] at h; exact absurd h (by decide)
 ·rw [hx] at h; exact absurd h (by decide)
 ·rw [hx] at h; exact absurd h (by decide)
 ·exact .inr (.inr (.inr ⟨hx', hr, h.imp id fun h => ⟨h.1, hf.trans h.2⟩⟩))
theorem meet_above (x x2 : V) (X Y : Cp) (s : St) (r : List St) (hX : CanX x X) (hY : LDo x (s :: r) Y x2) (hst : StOk s) : ∃ z, LDoL (doX x X) (thrQ s r X Y) z ∧ LDoL x2 [([], X)] z := by
 obtain ⟨loc, y, y', h1, h2, h3, rfl⟩ := hY.step
 unfold thrQ
 by_cases hl : s.list = true
 ·-- a list
  have h1' := h1
  rw [stepV_l hl] at h1'
  by_cases hc : x.kind = 4 ∧ 0 ≤ s.i ∧ s.i < x.l.length
  ·rw [if_pos hc] at h1'
   injection h1' with h1'
   subst h1'
   obtain ⟨hk, hi0, hi1⟩ := hc
   have g1 := hX.k4 hk
   have kx := check_kind g1
   obtain ⟨l1, hl1, ex⟩ := doX_l g1
   rw [child_l] at h2
   have hla := list_above y' kx hl1 hi0 h2
   rw [thrL_4 (fam_47 kx) hl, ex]
   have ck2 : checkL (x.put (.l s.i.toNat) y').l.length X.kind X.i X.j = 0 := by rw [(put_l x _ y').1, List.length_set]; exact g1
   obtain ⟨p, hp, ep⟩ := doX_l ck2
   rw [(put_l x _ y').1] at hp
   rw [put_kind, put_n, put_s, (put_l x _ y').2] at ep
   have can2 : CanX (x.put (.l s.i.toNat) y') X := .inr (.inr (.inl ⟨(put_kind _ _ _).trans hk, ck2⟩))
   cases hal : (atL X.kind X.i X.j s.i).2 with
   | true =>
    rw [if_pos rfl]
    obtain ⟨q1, q2, q3, q4⟩ := hla.1 hal
    rw [hp] at q4
    have q4 := Option.some.inj q4
    have s1 : stepV (.mk x.kind x.n x.s l1 x.o) { s with i := (atL X.kind X.i X.j s.i).1 } = some (.l (atL X.kind X.i X.j s.i).1.toNat) := by rw [stepV_l (s := { s with i := (atL X.kind X.i X.j s.i).1 }) hl]; exact if_pos ⟨hk, q1, q2⟩
    refine ⟨_, LDoL.one (LDo.stepI s1 (by rw [child_l]; exact q3) h3), ?_⟩
    have : (V.mk x.kind x.n x.s l1 x.o).put (.l (atL X.kind X.i X.j s.i).1.toNat) y' = doX (x.put (.l s.i.toNat) y') X := by
     rw [ep, q4]; rfl
    rw [this]
    exact LDoL.one (LDo.here can2)
   | false =>
    rw [if_neg (by decide)]
    have q4 := hla.2 hal
    rw [hp] at q4
    have q4 := Option.some.inj q4
    refine ⟨_, rfl, ?_⟩
    have : V.mk x.kind x.n x.s l1 x.o = doX (x.put (.l s.i.toNat) y') X := by rw [ep, q4]
    rw [this]
    exact LDoL.one (LDo.here can2)
  ·rw [if_neg hc] at h1'; cases h1'
 ·-- an object
  have hl : s.list = false := by simpa using hl
  have hk : x.kind = 5 := by
   have h1' := h1
   rw [stepV_o hl] at h1'
   by_cases hc : x.kind = 5 ∧ fieldIs x.o s.key = true
   ·exact hc.1
   ·rw [if_neg hc] at h1'; cases h1'
  have hX0 := hX
  obtain ⟨hr, g1⟩ := hX.k5 hk
  have kx : X.kind = 2 ∨ X.kind = 3 := g1.elim .inl fun h => .inr h.1
  have hlk := step_lk hr hl h1 h2
  obtain ⟨rp, lp, kp⟩ := put_lk hr hl h1 h2 y'
  have hX1 := obj_do (x := x) kx
  have hX2 := obj_do (x := x.put loc y') kx
  have r1 : Rise (doX x X).o := by rw [hX1.2]; exact fldR_rise _ _ _ hr
  have r2 : Rise (doX (x.put loc y') X).o := by rw [hX2.2]; exact fldR_rise _ _ _ rp
  have can2 : CanX (x.put loc y') X := can_keys rp hk ((put_kind _ _ _).trans hk) (by
   rw [fieldIs_lk rp, fieldIs_lk hr, kp]
   by_cases e : s.key = X.key
   ·rw [if_pos e, ← e, hlk.2]; rfl
   ·rw [if_neg e]) hX0
  have hn : (doX (x.put loc y') X).n = x.n ∧ (doX (x.put loc y') X).s = x.s ∧ (doX (x.put loc y') X).l = x.l ∧ (doX x X).n = x.n ∧ (doX x X).s = x.s ∧ (doX x X).l = x.l := by
   rw [doX_23 kx, doX_23 kx]
   exact ⟨put_n _ _ _, put_s _ _ _, lp, rfl, rfl, rfl⟩
  rw [thrL_5 (fam_23 kx) hl]
  by_cases e : s.key = X.key
  ·rw [show (s.key.toList != X.key.toList) = false from by rw [e]; simp, if_neg (show ¬ false = true from by decide)]
   refine ⟨_, rfl, ?_⟩
   have : doX x X = doX (x.put loc y') X := by
    refine V.ext5 (by rw [hX1.1, hX2.1, put_kind]) (by rw [hn.1, hn.2.2.2.1]) (by rw [hn.2.1, hn.2.2.2.2.1]) (by rw [hn.2.2.1, hn.2.2.2.2.2]) (lk_inj r1 r2 fun K => ?_)
    rw [hX1.2, hX2.2, lk_fldR, lk_fldR]
    by_cases e2 : X.key = K
    ·simp only [F.key, e2, if_true]
    ·simp only [F.key, e2, if_false]
     rw [kp, if_neg (by rw [e]; exact e2)]
   rw [this]
   exact LDoL.one (LDo.here can2)
  ·rw [show (s.key.toList != X.key.toList) = true from by rw [bne, keyBn.2 e]; rfl, if_pos rfl]
   have l1 : lk s.key (doX x X).o = some y := by
    rw [hX1.2, lk_fldR, if_neg (show ¬ (F.mk X.key X.v).key = s.key from fun h => e h.symm)]; exact hlk.2
   obtain ⟨loc1, s1, c1⟩ := lk_step r1 (hX1.1.trans hk) hl l1
   refine ⟨_, LDoL.one (LDo.stepI (s := { s with i := s.i }) s1 c1 h3), ?_⟩
   obtain ⟨rq, lq, kq⟩ := put_lk r1 hl s1 c1 y'
   have : (doX x X).put loc1 y' = doX (x.put loc y') X := by
    refine V.ext5 (by rw [put_kind, hX1.1, hX2.1, put_kind]) (by rw [put_n, hn.1, hn.2.2.2.1]) (by rw [put_s, hn.2.1, hn.2.2.2.2.1]) (by rw [lq, hn.2.2.1, hn.2.2.2.2.2]) (lk_inj rq r2 fun K => ?_)
    rw [kq, hX1.2, hX2.2, lk_fldR, lk_fldR, kp]
    by_cases e2 : X.key = K
    ·have e3 : ¬ s.key = K := fun h => e (h.trans e2.symm)
     simp only [F.key, e2, if_true, e3, if_false]
    ·simp only [F.key, e2, if_false]
   rw [this]
   exact LDoL.one (LDo.here can2)
theorem put_comm {x y1 y2 : V} {a b : Loc} (hne : a ≠ b) (h1 : x.child? a = some y1) (h2 : x.child? b = some y2) (z1 z2 : V) : (x.put a z1).put b z2 = (x.put b z2).put a z1 := by
 cases x with
 | mk k n s l o =>
  cases a with
  | l i =>
   cases b with
   | l j => simp only [V.put, V.mk.injEq, true_and, and_true]; exact (List.set_comm _ _ fun e => hne (by rw [e]))
   | o j => rfl
  | o i =>
   cases b with
   | l j => rfl
   | o j =>
    have hij : i ≠ j := fun e => hne (by rw [e])
    rw [child_o] at h1 h2
    have h1 : (o[i]?).map F.v = some y1 := h1
    have h2 : (o[j]?).map F.v = some y2 := h2
    rw [Option.map_eq_some_iff] at h1 h2
    obtain ⟨f, hf, _⟩ := h1
    obtain ⟨g, hg, _⟩ := h2
    simp only [V.put, hf, hg]
    rw [List.getElem?_set_ne hij, List.getElem?_set_ne hij.symm, hf, hg]
    simp only [V.mk.injEq, true_and]
    exact List.set_comm _ _ hij
theorem meet_apart (x x1 x2 : V) (X Y : Cp) (s t : St) (r q : List St) (hX : LDo x (s :: r) X x1) (hY : LDo x (t :: q) Y x2) (hs : StOk s) (ht : StOk t) (hne : s ≠ t) : ∃ z, LDoL x1 [(t :: q, Y)] z ∧ LDoL x2 [(s :: r, X)] z := by
 obtain ⟨a, y1, y1', h1, h2, h3, rfl⟩ := hX.step
 obtain ⟨b, y2, y2', g1, g2, g3, rfl⟩ := hY.step
 have hab : a ≠ b := fun e => by subst e; exact hne (step_same hs ht h1 g1)
 refine ⟨_, LDoL.one (LDo.stepI (by rw [step_put]; exact g1) (by rw [child_put_ne hab]; exact g2) g3), ?_⟩
 rw [put_comm hab h2 g2]
 exact LDoL.one (LDo.stepI (by rw [step_put]; exact h1) (by rw [child_put_ne hab.symm]; exact h2) h3)
theorem putV_two : ∀ (p : List St) (v x w z : V), putV v p x = some w → putV w p z = putV v p z
 | [], v, x, w, z, h => rfl
 | s :: p, v, x, w, z, h => by
  cases e : stepV v s with
  | none => simp only [putV, e] at h; cases h
  | some loc =>
   obtain ⟨y, hy⟩ := stepV_child e
   rw [putV_cons e hy, Option.map_eq_some_iff] at h
   obtain ⟨y', h1, rfl⟩ := h
   rw [putV_cons e hy, putV_cons (by rw [step_put]; exact e) (child_put hy y'), putV_two p y x y' z h1]
   cases putV y p z with
   | none => rfl
   | some u => simp only [Option.map_some]; rw [put_put]
theorem putV_self {v x : V} {p : List St} (h : getV v p = some x) : putV v p x = some v := by
 have h1 := putV_some p v x
 rw [h] at h1
 cases h2 : putV v p x with
 | none => rw [h2] at h1; cases h1
 | some w =>
  have h3 := put_back p v x w x h2 h
  rw [putV_two p v x w x h2, h2] at h3
  exact h3
theorem putV_is {v x : V} {p : List St} (h : getV v p = some x) (z : V) : ∃ w, putV v p z = some w := by
 have h1 := putV_some p v z
 rw [h] at h1
 cases h2 : putV v p z with
 | none => rw [h2] at h1; cases h1
 | some w => exact ⟨w, rfl⟩
theorem LDo.lift {v x z : V} {p q : List St} {c : Cp} (hg : getV v p = some x) (h : LDo x q c z) : ∃ w, putV v p z = some w ∧ LDo v (p ++ q) c w := by
 obtain ⟨y, h1, h2, h3⟩ := h
 obtain ⟨w, hw⟩ := putV_is hg z
 refine ⟨w, hw, y, by rw [getV_append, hg]; exact h1, h2, ?_⟩
 rw [putV_append, hg]
 simp only [Option.bind_some, h3]
 exact hw
theorem LDo.unlift {v x w : V} {p q : List St} {c : Cp} (hg : getV v p = some x) (h : LDo v (p ++ q) c w) : ∃ z, LDo x q c z ∧ putV v p z = some w := by
 obtain ⟨y, h1, h2, h3⟩ := h
 rw [getV_append, hg] at h1
 rw [putV_append, hg] at h3
 simp only [Option.bind_some] at h1 h3
 cases h4 : putV x q (doX y c) with
 | none => rw [h4] at h3; cases h3
 | some z => rw [h4] at h3; exact ⟨z, ⟨y, h1, h2, h4⟩, h3⟩
theorem LDoL.lift {p : List St} : ∀ (l : List (List St × Cp)) {v x z : V}, getV v p = some x → LDoL x l z → ∃ w, putV v p z = some w ∧ LDoL v (l.map fun a => (p ++ a.1, a.2)) w
 | [], v, x, z, hg, h => by
  have h : z = x := h
  subst h
  exact ⟨v, putV_self hg, rfl⟩
 | (q, c) :: l, v, x, z, hg, ⟨y, h1, h2⟩ => by
  obtain ⟨w, hw, h3⟩ := LDo.lift hg h1
  obtain ⟨u, hu, h4⟩ := LDoL.lift l (get_put p v y w hw) h2
  rw [putV_two p v y w z hw] at hu
  exact ⟨u, hu, w, h3, h4⟩
theorem meet_lift {v x z1 z2 : V} {p q1 q2 : List St} {X Y : Cp} {LX LY : List (List St × Cp)} (hg : getV v p = some x) (hX : LDo v (p ++ q1) X z1) (hY : LDo v (p ++ q2) Y z2) (h : ∀ x1 x2, LDo x q1 X x1 → LDo x q2 Y x2 → ∃ z, LDoL x1 LY z ∧ LDoL x2 LX z) :
  ∃ z, LDoL z1 (LY.map fun a => (p ++ a.1, a.2)) z ∧ LDoL z2 (LX.map fun a => (p ++ a.1, a.2)) z := by
 obtain ⟨x1, h1, g1⟩ := hX.unlift hg
 obtain ⟨x2, h2, g2⟩ := hY.unlift hg
 obtain ⟨z, h3, h4⟩ := h x1 x2 h1 h2
 obtain ⟨w, hw, h5⟩ := LDoL.lift LY (get_put p v x1 z1 g1) h3
 obtain ⟨w', hw', h6⟩ := LDoL.lift LX (get_put p v x2 z2 g2) h4
 rw [putV_two p v x1 z1 z g1] at hw
 rw [putV_two p v x2 z2 z g2, hw] at hw'
 exact ⟨w, h5, Option.some.inj hw' ▸ h6⟩
theorem paths_part : ∀ (a b : List St), ∃ p q1 q2, a = p ++ q1 ∧ b = p ++ q2 ∧ (q1 = [] ∨ q2 = [] ∨ ∃ s r t q, q1 = s :: r ∧ q2 = t :: q ∧ s ≠ t)
 | [], b => ⟨[], [], b, rfl, rfl, .inl rfl⟩
 | s :: a, [] => ⟨[], s :: a, [], rfl, rfl, .inr (.inl rfl)⟩
 | s :: a, t :: b => by
  by_cases e : s = t
  ·subst e
   obtain ⟨p, q1, q2, h1, h2, h3⟩ := paths_part a b
   exact ⟨s :: p, q1, q2, by rw [h1]; rfl, by rw [h2]; rfl, h3⟩
  ·exact ⟨[], s :: a, t :: b, rfl, rfl, .inr (.inr ⟨s, a, t, b, rfl, rfl, e⟩)⟩
def PDo (v : V) (c : Cp) (z : V) : Prop := LDo v c.path c z
def PDoL : V → List Cp → V → Prop
 | v, [], z => z = v
 | v, c :: r, z => ∃ y, PDo v c y ∧ PDoL y r z
theorem LDo.path {x z : V} {q p : List St} {c : Cp} (h : LDo x q c z) : LDo x q { c with path := p } z := h
theorem PDoL_of : ∀ (l : List Cp) {v z : V}, LDoL v (l.map fun c => (c.path, c)) z → PDoL v l z
 | [], _, _, h => h
 | c :: r, v, z, ⟨y, h1, h2⟩ => ⟨y, h1, PDoL_of r h2⟩
theorem besL_path {x y c : Cp} {left : Bool} (h : c ∈ besL x y left) : c.path = x.path := by
 unfold besL at h
 split at h
 ·rw [List.mem_singleton.1 h]
 ·split at h
  ·obtain ⟨q, _, rfl⟩ := List.mem_map.1 h; rfl
  ·split at h
   ·obtain ⟨q, _, rfl⟩ := List.mem_map.1 h; rfl
   ·split at h
    ·cases h
    ·rw [List.mem_singleton.1 h]
theorem here_map {p : List St} {l : List Cp} (h : ∀ c ∈ l, c.path = p) : (hereL l).map (fun a => (p ++ a.1, a.2)) = l.map fun c => (c.path, c) := by
 unfold hereL
 rw [List.map_map]
 refine List.map_congr_left fun c hc => ?_
 simp [h c hc]
theorem pre_anti {p q : List St} {s : St} {r : List St} (h : q = p ++ s :: r) : ¬ q <+: p := fun e => by
 have := e.length_le
 rw [h] at this
 simp at this
 omega
theorem prefix_ne {p : List St} {s t : St} {r q : List St} (h : s ≠ t) : ¬ p ++ s :: r <+: p ++ t :: q := fun e => by
 rw [List.prefix_append_right_inj, List.cons_prefix_cons] at e
 exact h e.1
theorem meet_plain (v z1 z2 : V) (X Y : Cp) (left b1 b2 : Bool) (hb1 : b1 = true ↔ X.path <+: Y.path) (hb2 : b2 = true ↔ Y.path <+: X.path) (hX : PDo v X z1) (hY : PDo v Y z2) (sX : ∀ s ∈ X.path, StOk s) (sY : ∀ s ∈ Y.path, StOk s)
  (hz : ∀ x, getV v X.path = some x → x.s.size ≤ 400) : ∃ z, PDoL z1 (turnC b1 Y X (!left)) z ∧ PDoL z2 (turnC b2 X Y left) z := by
 obtain ⟨p, q1, q2, e1, e2, h⟩ := paths_part X.path Y.path
 unfold PDo at hX hY
 rw [e1] at hX
 rw [e2] at hY
 obtain ⟨x, hg⟩ : ∃ x, getV v p = some x := by
  obtain ⟨y, h1, _⟩ := hX
  rw [getV_append] at h1
  cases h2 : getV v p with
  | none => rw [h2] at h1; cases h1
  | some x => exact ⟨x, rfl⟩
 have end_ : ∀ {LX LY : List Cp} {MX MY : List (List St × Cp)}, (∀ x1 x2, LDo x q1 X x1 → LDo x q2 Y x2 → ∃ z, LDoL x1 MY z ∧ LDoL x2 MX z) → MY.map (fun a => (p ++ a.1, a.2)) = LY.map (fun c => (c.path, c)) → MX.map (fun a => (p ++ a.1, a.2)) = LX.map (fun c => (c.path, c)) →
   ∃ z, PDoL z1 LY z ∧ PDoL z2 LX z := by
  intro LX LY MX MY hm h1 h2
  obtain ⟨z, h3, h4⟩ := meet_lift hg hX hY hm
  rw [h1] at h3
  rw [h2] at h4
  exact ⟨z, PDoL_of _ h3, PDoL_of _ h4⟩
 have thr : ∀ {A B : Cp} {s : St} {r : List St}, A.path = p → B.path = p ++ s :: r → ∃ L : List Cp, turnC true B A = (fun _ => L) ∧ ∀ M : List (List St × Cp), (M = if (thrL s A).2 = true then [({ s with i := (thrL s A).1 } :: r, { B with path := p ++ { s with i := (thrL s A).1 } :: r })] else []) → M.map (fun a => (p ++ a.1, a.2)) = L.map fun c => (c.path, c) := by
  intro A B s r hA hB
  refine ⟨if (thrL s A).2 = true then [{ B with path := p ++ { s with i := (thrL s A).1 } :: r }] else [], ?_, ?_⟩
  ·funext lf
   unfold turnC
   have : B.path[A.path.length]? = some s := by rw [hA, hB, List.getElem?_append_right (Nat.le_refl _)]; simp
   rw [if_pos rfl, this]
   simp only
   have e : B.path.set A.path.length { s with i := (thrL s A).1 } = p ++ { s with i := (thrL s A).1 } :: r := by
    rw [hA, hB, List.set_append_right _ _ (Nat.le_refl _)]; simp
   rw [e]
  ·rintro M rfl
   split <;> simp
 rcases Nat.eq_zero_or_pos q1.length with hq1 | hq1
 ·have hq1 : q1 = [] := List.eq_nil_of_length_eq_zero hq1
  subst hq1
  rw [List.append_nil] at e1
  cases q2 with
  | nil =>
   rw [List.append_nil] at e2
   have t1 : b1 = true := hb1.2 (by rw [e1, e2]; exact List.prefix_refl _)
   have t2 : b2 = true := hb2.2 (by rw [e1, e2]; exact List.prefix_refl _)
   subst t1 t2
   have l1 : Y.path[X.path.length]? = none := by rw [e1, e2]; simp
   have l2 : X.path[Y.path.length]? = none := by rw [e1, e2]; simp
   have c1 : turnC true Y X (!left) = besL Y X (!left) := by unfold turnC; rw [if_pos rfl, l1]
   have c2 : turnC true X Y left = besL X Y left := by unfold turnC; rw [if_pos rfl, l2]
   rw [c1, c2]
   refine end_ (MY := hereL (besL Y X (!left))) (MX := hereL (besL X Y left)) (fun x1 x2 h1 h2 => ?_) (here_map fun c hc => (besL_path hc).trans e2) (here_map fun c hc => (besL_path hc).trans e1)
   obtain ⟨g1, rfl⟩ := h1.here_eq
   obtain ⟨g2, rfl⟩ := h2.here_eq
   exact meet_here x X Y left g1 g2 (hz x (by rw [e1]; exact hg))
  | cons s r =>
   have t1 : b1 = true := hb1.2 (by rw [e1, e2]; exact List.prefix_append _ _)
   have t2 : b2 = false := by rw [← Bool.not_eq_true, hb2, e1]; exact pre_anti e2
   subst t1 t2
   obtain ⟨L, hL, hM⟩ := thr e1 e2
   rw [hL, show turnC false X Y left = [X] from rfl]
   refine end_ (MY := if (thrL s X).2 = true then [({ s with i := (thrL s X).1 } :: r, { Y with path := p ++ { s with i := (thrL s X).1 } :: r })] else []) (MX := [([], X)]) (fun x1 x2 h1 h2 => ?_) (hM _ rfl) (by simp [e1])
   obtain ⟨g1, rfl⟩ := h1.here_eq
   obtain ⟨z, h3, h4⟩ := meet_above x x2 X Y s r g1 h2 (sY s (by rw [e2]; simp))
   refine ⟨z, ?_, h4⟩
   unfold thrQ at h3
   split
   ·rename_i ht; rw [if_pos ht] at h3; exact h3
   ·rename_i ht; rw [if_neg ht] at h3; exact h3
 ·cases q1 with
  | nil => cases hq1
  | cons s r =>
   rcases h with h | h | h
   ·cases h
   ·subst h
    rw [List.append_nil] at e2
    have t2 : b2 = true := hb2.2 (by rw [e1, e2]; exact List.prefix_append _ _)
    have t1 : b1 = false := by rw [← Bool.not_eq_true, hb1, e2]; exact pre_anti e1
    subst t1 t2
    obtain ⟨L, hL, hM⟩ := thr e2 e1
    rw [hL, show turnC false Y X (!left) = [Y] from rfl]
    refine end_ (MY := [([], Y)]) (MX := if (thrL s Y).2 = true then [({ s with i := (thrL s Y).1 } :: r, { X with path := p ++ { s with i := (thrL s Y).1 } :: r })] else []) (fun x1 x2 h1 h2 => ?_) (by simp [e2]) (hM _ rfl)
    obtain ⟨g1, rfl⟩ := h2.here_eq
    obtain ⟨z, h3, h4⟩ := meet_above x x1 Y X s r g1 h1 (sX s (by rw [e1]; simp))
    refine ⟨z, h4, ?_⟩
    unfold thrQ at h3
    split
    ·rename_i ht; rw [if_pos ht] at h3; exact h3
    ·rename_i ht; rw [if_neg ht] at h3; exact h3
   ·obtain ⟨s', r', t, q, h1, h2, hne⟩ := h
    injection h1 with h1 h1'
    subst h1 h1' h2
    have t1 : b1 = false := by rw [← Bool.not_eq_true, hb1, e1, e2]; exact prefix_ne hne
    have t2 : b2 = false := by rw [← Bool.not_eq_true, hb2, e1, e2]; exact prefix_ne fun h => hne h.symm
    subst t1 t2
    rw [show turnC false Y X (!left) = [Y] from rfl, show turnC false X Y left = [X] from rfl]
    refine end_ (MY := [(t :: q, Y)]) (MX := [(s :: r, X)]) (fun x1 x2 h1 h2 => ?_) (by simp [e2]) (by simp [e1])
    exact meet_apart x x1 x2 X Y s t r q h1 h2 (sX s (by rw [e1]; simp)) (sY t (by rw [e2]; simp)) hne
end Go.Proofs.YtioplgfopillnaaDoor
