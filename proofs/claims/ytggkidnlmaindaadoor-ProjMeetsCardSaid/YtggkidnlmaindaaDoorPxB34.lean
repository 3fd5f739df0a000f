/- MeetE, AimP, TurnN, AppFull, TiesC, Comp2: laid together. -/
import Derived.Test.YtggkidnlmaindaaDoorPxB31
import Derived.Test.YtggkidnlmaindaaDoorPxB32
import Derived.Test.YtggkidnlmaindaaDoorPxB33
import Derived.Test.YtggkidnlmaindaaDoorPxB28
import Derived.Test.YtggkidnlmaindaaDoorPxB1
import Derived.Test.YtggkidnlmaindaaDoorPxB25
import Derived.Test.YtggkidnlmaindaaDoorPxB30
import Derived.Test.YtggkidnlmaindaaDoorPxB18
set_option linter.unusedSimpArgs false
set_option linter.unusedVariables false
set_option maxHeartbeats 25600000
set_option maxRecDepth 20000
namespace Go.Proofs.YtggkidnlmaindaaDoor
open Go.RowKit
theorem sizes_erase : ∀ (l : List V) (i : Nat) (x : V), l[i]? = some x → V.sizes (l.eraseIdx i) + x.size = V.sizes l
 | [], i, x, h => by simp at h
 | v :: vs, 0, x, h => by simp only [List.getElem?_cons_zero, Option.some.injEq] at h; subst h; simp only [List.eraseIdx_cons_zero, V.sizes]; omega
 | v :: vs, i + 1, x, h => by simp only [List.eraseIdx_cons_succ, V.sizes]; have := sizes_erase vs i x (by simpa using h); omega
theorem sizes_erase_le : ∀ (l : List V) (i : Nat), V.sizes (l.eraseIdx i) ≤ V.sizes l
 | [], i => by simp
 | v :: vs, 0 => by simp only [List.eraseIdx_cons_zero, V.sizes]; omega
 | v :: vs, i + 1 => by simp only [List.eraseIdx_cons_succ, V.sizes]; have := sizes_erase_le vs i; omega
theorem sizes_ins (l : List V) (i : Nat) (x : V) : V.sizes (l.take i ++ x :: l.drop i) = V.sizes l + x.size := by
 have h : V.sizes (l.take i) + V.sizes (l.drop i) = V.sizes l := by rw [← V.sizes_append, List.take_append_drop]
 rw [V.sizes_append, V.sizes]; omega
theorem doL_sizes {l ys : List V} {c : Cm V} (h : doL l c = some ys) : V.sizes ys ≤ V.sizes l + c.x.size := by
 unfold doL at h
 split at h
 ·split at h
  ·have h := Option.some.inj h
   subst h
   rw [sizes_ins]; exact Nat.le_refl _
  ·split at h
   ·have h := Option.some.inj h
    subst h
    have := sizes_erase_le l c.i.toNat; omega
   ·split at h
    ·have h := Option.some.inj h
     subst h
     exact V.sizes_set _ _ _
    ·rw [Option.map_eq_some_iff] at h
     obtain ⟨x, hx, rfl⟩ := h
     rw [sizes_ins]
     have := sizes_erase l _ x hx; omega
 ·cases h
theorem doX_size {x : V} {c : Cp} (h : CanX x c) : (doX x c).size ≤ x.size + c.v.size + 1 := by
 have h0 := V.size_eq x
 rcases h with ⟨_, h⟩ | ⟨_, _, h, _⟩ | ⟨_, h⟩ | ⟨_, _, h⟩
 ·rw [doX_1 h, V.size_eq]; show 1 + V.sizes x.l + F.sizes x.o ≤ _; omega
 ·rw [doX_89 (h.elim (fun h => .inl h.1) fun h => .inr h.1), V.size_eq]; show 1 + V.sizes x.l + F.sizes x.o ≤ _; omega
 ·obtain ⟨ys, h1, h2⟩ := doX_l h
  have h3 := doL_sizes h1
  have h3 : V.sizes ys ≤ V.sizes x.l + c.v.size := h3
  rw [h2, V.size_eq]; show 1 + V.sizes ys + F.sizes x.o ≤ _; omega
 ·have h3 := fldR_sizes (.mk c.key c.v) (c.kind.toNat == 3) x.o
  rw [F.size] at h3
  rw [doX_23 (h.imp id fun h => h.1), V.size_eq]; show 1 + V.sizes x.l + F.sizes (fldR _ _ _) ≤ _; omega
theorem pdo_does {w0 : World} (hva : ValAny w0) (hD : DecAny w0) {v z : V} {c : Cp} (hs : Snd6 c) (hsz : v.size ≤ 100000) (hcv : c.v.size ≤ 300) (h : PDo v c z) : Does w0 v c z ∧ z.size ≤ 2 * v.size + 400 := by
 obtain ⟨x, hg, hc, hz⟩ := h
 have h1 := getV_size _ _ _ hg
 have h2 := doX_size hc
 have h3 := putV_size _ _ _ _ hz
 have h4 := V.size_eq x
 have h5 := V.sizes_len x.l
 have h6 := F.sizes_len x.o
 refine ⟨fun w S S2 u t hw hv hcc => ?_, by omega⟩
 have hc0 := hc
 rcases hc with ⟨hk, h⟩ | ⟨hk, ha, h, _, hcs⟩ | ⟨hk, h⟩ | ⟨hk, _, h⟩
 ·rw [doX_1 h] at hz
  exact rdo6_add w0 hva w hw S S2 u t v x z c hv hcc hs hg (by omega) h hk hz (by rw [doX_1 h] at h2; omega)
 ·have h8 : c.kind = 8 ∨ c.kind = 9 := h.elim (fun h => .inl h.1) fun h => .inr h.1
  rw [doX_89 h8] at hz
  exact rdo6_text w0 hva w hw S S2 u t v x z c hv hcc hs hg (by omega) ha hk hD h (by omega) hz (by rw [doX_89 h8] at h2; omega)
 ·obtain ⟨ys, q1, q2⟩ := doX_l h
  rw [q2] at hz
  exact rdo6_list w0 hva w hw S S2 u t v x z c hv hcc hs hg (by omega) (by omega) (by omega) hk ys q1 hz (by rw [q2] at h2; omega)
 ·have h8 : c.kind = 2 ∨ c.kind = 3 := h.imp id fun h => h.1
  rw [doX_23 h8] at hz
  exact rdo6_put w0 hva w hw S S2 u t v x z c hv hcc hs hg (by omega) (by omega) h hk hz (by rw [doX_23 h8] at h2; omega)
structure Kin (x c : Cp) : Prop where
 kind : c.kind = x.kind
 key : c.key = x.key
 v : c.v = x.v
 s : c.s = x.s
 i : c.i = x.i ∨ famN x.kind.toNat = 4 ∨ famN x.kind.toNat = 3
 j : ¬ x.kind = 7 → c.j = x.j
 n : ¬ x.kind = 9 → c.n = x.n
 p : c.path = x.path ∨ ∃ k s i, x.path[k]? = some s ∧ c.path = x.path.set k { s with i := i } ∧ (s.list = true ∨ i = s.i)
theorem Kin.refl (x : Cp) : Kin x x := ⟨rfl, rfl, rfl, rfl, .inl rfl, fun _ => rfl, fun _ => rfl, .inl rfl⟩
theorem bys_text (l : List UInt8) : bys (textOf l) = l := by show (textOf l).data.toList = l; unfold textOf; rfl
theorem text_size (l : List UInt8) : (textOf l).size = l.length := by rw [← bys_len, bys_text]
theorem getV_keys : ∀ (p : List St) (v x : V), SV v → getV v p = some x → ∀ s ∈ p, StOk s → badS s = false ∧ SmallS s
 | [], _, _, _, _, s, hs, _ => by cases hs
 | t :: p, v, x, hv, h, s, hs, hst => by
  cases e : stepV v t with
  | none => simp only [getV, e] at h; cases h
  | some loc =>
   obtain ⟨y, hy⟩ := stepV_child e
   rw [getV_cons e hy] at h
   rcases List.mem_cons.1 hs with rfl | hs
   ·rcases hst with ⟨hl, hk, hi⟩ | ⟨hl, hi⟩
    ·refine ⟨?_, by unfold SmallS; rw [hk]; decide⟩
     unfold badS
     rw [hl, hk]
     simp only [if_true, Bool.or_eq_false_iff, decide_eq_false_iff_not]
     exact ⟨by rw [ByteArray.toList_eq]; rfl, by omega⟩
    ·rw [stepV_o hl] at e
     by_cases hc : v.kind = 5 ∧ fieldIs v.o s.key = true
     ·have hk := fieldIs_lt hc.2
      have h3 := hc.2
      rw [fieldIs_some hk rfl, keyB] at h3
      have hf := (SFs_iff v.o).1 ((SV_iff v).1 hv).2.2.1 _ (List.getElem_mem hk)
      have ha := ((SF_iff _).1 hf).1
      rw [h3] at ha
      refine ⟨?_, by unfold SmallS; have := ha.2; omega⟩
      unfold badS
      rw [hl, if_neg (by decide), valid_asc ha, hi]
      decide
     ·rw [if_neg hc] at e; cases e
   ·refine getV_keys p y x ?_ h s hs hst
    exact getV_sv [t] v y hv (by simp only [getV, e, hy])
theorem one_ok {v : V} {c : Cp} (hv : SV v) (hz : v.size ≤ 100000) (h : OneOk v c) : Snd6 c ∧ c.v.size ≤ 300 ∧ (∃ z, PDo v c z) ∧ (∀ s ∈ c.path, StOk s) ∧ ∀ x, getV v c.path = some x → x.s.size ≤ 1000 := by
 obtain ⟨x, hg, h5, hst, h⟩ := h
 have hsx := getV_sv _ _ _ hv hg
 have hsx' := (SV_iff x).1 hsx
 have hss : x.s.size ≤ 900 := by
  rcases hsx'.1 with h | h | h | h | h | h
  ·rw [h.2.2.1]; decide
  ·rw [h.2.2.1]; decide
  ·rw [h.2.1]; decide
  ·exact h.2.2.1.2
  ·rw [h.2.2.1]; decide
  ·rw [h.2.2.1]; decide
 have hp1 : c.path.length ≤ 16 ∧ c.path.any badS = false := ⟨by omega, by rw [List.any_eq_false]; intro s hs; rw [(getV_keys _ _ _ hv hg s hs (hst s hs)).1]; decide⟩
 have hpk : ∀ s ∈ c.path, SmallS s := fun s hs => (getV_keys _ _ _ hv hg s hs (hst s hs)).2
 have hlast : ∀ y, getV v c.path = some y → y.s.size ≤ 1000 := fun y hy => by rw [hg] at hy; rw [← Option.some.inj hy]; omega
 have pdo : CanX x c → ∃ z, PDo v c z := fun hc => by
  obtain ⟨z, hz⟩ := putV_is hg (doX x c)
  exact ⟨z, x, hg, hc, hz⟩
 have hzs : SV ZV := ZV.sv
 have z1 : ZV.weight ≤ 20000 := by have := V.weigh ZV ZV.svd.2.2; have := ZV.size_ok; omega
 have z2 : c.path.length + 1 + ZV.deep ≤ 16 := by have := ZV.svd.2.1; omega
 rcases h with ⟨hk, n, _, h⟩ | ⟨hk, k, i, n, s, ht, h⟩ | ⟨hk, k, i, j, y, hl, hy, hyz, h⟩ | ⟨hk, k, key, y, hf, hy, hyz, h⟩
 ·generalize c.path = p at *
  subst h
  exact ⟨{ kind := (show 1 ≤ (1 : UInt8).toNat ∧ (1 : UInt8).toNat ≤ 9 from by decide), path := hp1, K := .inr rfl, I := .inr rfl, J := .inr rfl, N := .inl rfl, S := .inr rfl, V := .inr rfl, vkey := rfl, vs := rfl, i0 := Int.le_refl _, j0 := Int.le_refl _,
           tins := fun h => absurd (show (1 : UInt8).toNat = 8 from h) (by decide), tdel := fun h => absurd (show (1 : UInt8).toNat = 9 from h) (by decide), snd := SV.snd _ hzs, deep := z2, weight := z1, big := SV.big hzs, size := by show ZV.size ≤ 1000000; have := ZV.size_ok; omega,
           zk := by show (⟨#[]⟩ : ByteArray).size ≤ 1000000; decide, zs := by show (⟨#[]⟩ : ByteArray).size ≤ 1000000; decide, pk := hpk }, by show ZV.size ≤ 300; have := ZV.size_ok; omega, pdo (.inl ⟨hk, rfl⟩), hst, hlast⟩
 ·have hxa : Asc x.s := by
   rcases hsx'.1 with h | h | h | h | h | h <;> first | exact h.2.2.1 | (rw [h.1] at hk; exact absurd hk (by decide))
  have hxb : AscB x.s := hxa.1
  generalize c.path = p at *
  rcases ht with ⟨rfl, ⟨q, rfl, hq⟩, rfl, l, hl, hl2, rfl⟩ | ⟨rfl, ⟨q, m, rfl, hq, rfl, hm, hqm⟩, rfl⟩
  ·subst h
   have ha : AscB (textOf (120 :: l)) := by
    intro b hb
    rw [bys_text] at hb
    rcases List.mem_cons.1 hb with rfl | hb
    ·decide
    ·exact hl2 b hb
   have hts : (textOf (120 :: l)).size ≤ 41 := by rw [text_size, List.length_cons]; omega
   exact ⟨{ kind := (show 1 ≤ (8 : UInt8).toNat ∧ (8 : UInt8).toNat ≤ 9 from by decide), path := hp1, K := .inr rfl, I := .inl rfl, J := .inr rfl, N := .inr rfl, S := .inl rfl, V := .inr rfl, vkey := rfl, vs := valid_asc (show Asc (textOf (120 :: l)) from ⟨ha, by omega⟩), i0 := Int.natCast_nonneg _, j0 := Int.le_refl _,
            tins := fun _ => by show (textOf (120 :: l)).data.toList.isEmpty = false; rw [show (textOf (120 :: l)).data.toList = 120 :: l from bys_text _]; rfl, tdel := fun h => absurd (show (8 : UInt8).toNat = 9 from h) (by decide), snd := SV.snd _ hzs, deep := z2, weight := z1, big := SV.big hzs, size := by show ZV.size ≤ 1000000; have := ZV.size_ok; omega,
            zk := by show (⟨#[]⟩ : ByteArray).size ≤ 1000000; decide, zs := by show (textOf (120 :: l)).size ≤ 1000000; omega, pk := hpk }, by show ZV.size ≤ 300; have := ZV.size_ok; omega,
       pdo (.inr (.inl ⟨hk, hxb.asc (by omega), .inl ⟨rfl, q, rfl, hq⟩, ha, by show (textOf (120 :: l)).size ≤ 100; omega⟩)), hst, hlast⟩
  ·subst h
   exact ⟨{ kind := (show 1 ≤ (9 : UInt8).toNat ∧ (9 : UInt8).toNat ≤ 9 from by decide), path := hp1, K := .inr rfl, I := .inl rfl, J := .inr rfl, N := .inl rfl, S := .inr rfl, V := .inr rfl, vkey := rfl, vs := rfl, i0 := Int.natCast_nonneg _, j0 := Int.le_refl _,
            tins := fun h => absurd (show (9 : UInt8).toNat = 8 from h) (by decide), tdel := fun _ => by show 1 ≤ (m : Int); omega, snd := SV.snd _ hzs, deep := z2, weight := z1, big := SV.big hzs, size := by show ZV.size ≤ 1000000; have := ZV.size_ok; omega,
            zk := by show (⟨#[]⟩ : ByteArray).size ≤ 1000000; decide, zs := by show (⟨#[]⟩ : ByteArray).size ≤ 1000000; decide, pk := hpk }, by show ZV.size ≤ 300; have := ZV.size_ok; omega,
       pdo (.inr (.inl ⟨hk, hxb.asc (by omega), .inr ⟨rfl, q, m, rfl, rfl, hm, hqm⟩, fun b hb => (by cases hb), by show (⟨#[]⟩ : ByteArray).size ≤ 100; decide⟩)), hst, hlast⟩
 ·have y1 : y.weight ≤ 20000 := by have := V.weigh y hy.2.2; omega
  have y2 : c.path.length + 1 + y.deep ≤ 16 := by have := hy.2.1; omega
  have hck : checkL x.l.length k i j = 0 := by
   obtain ⟨q, rfl, ⟨rfl, hq, rfl⟩ | ⟨rfl, hq, rfl, _⟩ | ⟨rfl, hq, rfl⟩ | ⟨rfl, hq, _, r, rfl, hr⟩⟩ := hl
   ·exact check_of (.inl ⟨rfl, by omega, by omega⟩)
   ·exact check_of (.inr (.inl ⟨rfl, by omega, by omega⟩))
   ·exact check_of (.inr (.inr (.inl ⟨rfl, by omega, by omega⟩)))
   ·exact check_of (.inr (.inr (.inr ⟨rfl, by omega, by omega, by omega, by omega⟩)))
  generalize c.path = p at *
  subst h
  have base : ∀ {P : Prop}, (P → (Snd6 ⟨k, p, ⟨#[]⟩, i, j, 0, y, ⟨#[]⟩⟩)) → P → Snd6 ⟨k, p, ⟨#[]⟩, i, j, 0, y, ⟨#[]⟩⟩ := fun f h => f h
  refine ⟨?_, by show y.size ≤ 300; omega, pdo (.inr (.inr (.inl ⟨hk, hck⟩))), hst, hlast⟩
  obtain ⟨q, rfl, ⟨rfl, hq, rfl⟩ | ⟨rfl, hq, rfl, rfl⟩ | ⟨rfl, hq, rfl⟩ | ⟨rfl, hq, rfl, r, rfl, hr⟩⟩ := hl
  ·exact { kind := (show 1 ≤ (4 : UInt8).toNat ∧ (4 : UInt8).toNat ≤ 9 from by decide), path := hp1, K := .inr rfl, I := .inl rfl, J := .inr rfl, N := .inr rfl, S := .inr rfl, V := .inl rfl, vkey := rfl, vs := rfl, i0 := Int.natCast_nonneg _, j0 := Int.le_refl _,
           tins := fun h => absurd (show (4 : UInt8).toNat = 8 from h) (by decide), tdel := fun h => absurd (show (4 : UInt8).toNat = 9 from h) (by decide), snd := SV.snd _ hy.1, deep := y2, weight := y1, big := SV.big hy.1, size := by show y.size ≤ 1000000; omega,
           zk := by show (⟨#[]⟩ : ByteArray).size ≤ 1000000; decide, zs := by show (⟨#[]⟩ : ByteArray).size ≤ 1000000; decide, pk := hpk }
  ·exact { kind := (show 1 ≤ (5 : UInt8).toNat ∧ (5 : UInt8).toNat ≤ 9 from by decide), path := hp1, K := .inr rfl, I := .inl rfl, J := .inr rfl, N := .inr rfl, S := .inr rfl, V := .inr rfl, vkey := rfl, vs := rfl, i0 := Int.natCast_nonneg _, j0 := Int.le_refl _,
           tins := fun h => absurd (show (5 : UInt8).toNat = 8 from h) (by decide), tdel := fun h => absurd (show (5 : UInt8).toNat = 9 from h) (by decide), snd := SV.snd _ hy.1, deep := y2, weight := y1, big := SV.big hy.1, size := by show ZV.size ≤ 1000000; omega,
           zk := by show (⟨#[]⟩ : ByteArray).size ≤ 1000000; decide, zs := by show (⟨#[]⟩ : ByteArray).size ≤ 1000000; decide, pk := hpk }
  ·exact { kind := (show 1 ≤ (6 : UInt8).toNat ∧ (6 : UInt8).toNat ≤ 9 from by decide), path := hp1, K := .inr rfl, I := .inl rfl, J := .inr rfl, N := .inr rfl, S := .inr rfl, V := .inl rfl, vkey := rfl, vs := rfl, i0 := Int.natCast_nonneg _, j0 := Int.le_refl _,
           tins := fun h => absurd (show (6 : UInt8).toNat = 8 from h) (by decide), tdel := fun h => absurd (show (6 : UInt8).toNat = 9 from h) (by decide), snd := SV.snd _ hy.1, deep := y2, weight := y1, big := SV.big hy.1, size := by show y.size ≤ 1000000; omega,
           zk := by show (⟨#[]⟩ : ByteArray).size ≤ 1000000; decide, zs := by show (⟨#[]⟩ : ByteArray).size ≤ 1000000; decide, pk := hpk }
  ·exact { kind := (show 1 ≤ (7 : UInt8).toNat ∧ (7 : UInt8).toNat ≤ 9 from by decide), path := hp1, K := .inr rfl, I := .inl rfl, J := .inl rfl, N := .inr rfl, S := .inr rfl, V := .inr rfl, vkey := rfl, vs := rfl, i0 := Int.natCast_nonneg _, j0 := Int.natCast_nonneg _,
           tins := fun h => absurd (show (7 : UInt8).toNat = 8 from h) (by decide), tdel := fun h => absurd (show (7 : UInt8).toNat = 9 from h) (by decide), snd := SV.snd _ hy.1, deep := y2, weight := y1, big := SV.big hy.1, size := by show ZV.size ≤ 1000000; omega,
           zk := by show (⟨#[]⟩ : ByteArray).size ≤ 1000000; decide, zs := by show (⟨#[]⟩ : ByteArray).size ≤ 1000000; decide, pk := hpk }
 ·have y1 : y.weight ≤ 20000 := by have := V.weigh y hy.2.2; omega
  have y2 : c.path.length + 1 + y.deep ≤ 16 := by have := hy.2.1; omega
  generalize c.path = p at *
  subst h
  obtain ⟨hkey, hf⟩ := hf
  refine ⟨?_, by show y.size ≤ 300; omega, pdo (.inr (.inr (.inr ⟨hk, hsx'.2.2.2, hf.imp id fun h => ⟨h.1, h.2.1⟩⟩))), hst, hlast⟩
  rcases hf with rfl | ⟨rfl, _, rfl⟩
  ·exact { kind := (show 1 ≤ (2 : UInt8).toNat ∧ (2 : UInt8).toNat ≤ 9 from by decide), path := hp1, K := .inl rfl, I := .inr rfl, J := .inr rfl, N := .inr rfl, S := .inr rfl, V := .inl rfl, vkey := valid_asc hkey, vs := rfl, i0 := Int.le_refl _, j0 := Int.le_refl _,
           tins := fun h => absurd (show (2 : UInt8).toNat = 8 from h) (by decide), tdel := fun h => absurd (show (2 : UInt8).toNat = 9 from h) (by decide), snd := SV.snd _ hy.1, deep := y2, weight := y1, big := SV.big hy.1, size := by show y.size ≤ 1000000; omega,
           zk := by show key.size ≤ 1000000; have := hkey.2; omega, zs := by show (⟨#[]⟩ : ByteArray).size ≤ 1000000; decide, pk := hpk }
  ·exact { kind := (show 1 ≤ (3 : UInt8).toNat ∧ (3 : UInt8).toNat ≤ 9 from by decide), path := hp1, K := .inl rfl, I := .inr rfl, J := .inr rfl, N := .inr rfl, S := .inr rfl, V := .inr rfl, vkey := valid_asc hkey, vs := rfl, i0 := Int.le_refl _, j0 := Int.le_refl _,
           tins := fun h => absurd (show (3 : UInt8).toNat = 8 from h) (by decide), tdel := fun h => absurd (show (3 : UInt8).toNat = 9 from h) (by decide), snd := SV.snd _ hy.1, deep := y2, weight := y1, big := SV.big hy.1, size := by show ZV.size ≤ 1000000; omega,
           zk := by show key.size ≤ 1000000; have := hkey.2; omega, zs := by show (⟨#[]⟩ : ByteArray).size ≤ 1000000; decide, pk := hpk }
inductive VTx (R : Nat) : V → Prop
 | mk {v : V} : v.s.size ≤ R → (∀ y ∈ v.l, VTx R y) → (∀ f ∈ v.o, VTx R f.v) → VTx R v
theorem VTx.s {R : Nat} {v : V} (h : VTx R v) : v.s.size ≤ R := by cases h; assumption
theorem VTx.l {R : Nat} {v : V} (h : VTx R v) : ∀ y ∈ v.l, VTx R y := by cases h; assumption
theorem VTx.o {R : Nat} {v : V} (h : VTx R v) : ∀ f ∈ v.o, VTx R f.v := by cases h; assumption
theorem VTx.mono {R R' : Nat} (hR : R ≤ R') {v : V} (h : VTx R v) : VTx R' v := by
 induction h with
 | mk h1 _ _ i2 i3 => exact .mk (by omega) i2 i3
mutual
theorem VStr.tx {R : Nat} : ∀ (v : V), VStr R v → VTx R v
 | .mk k n s l o, h => by rw [VStr] at h; exact .mk h.1 (VStrs.tx l h.2.1) (FStrs.tx o h.2.2)
theorem VStrs.tx {R : Nat} : ∀ (l : List V), VStrs R l → ∀ y ∈ l, VTx R y
 | [], _, _, h => by cases h
 | v :: vs, h, y, hy => by
  rw [VStrs] at h
  rcases List.mem_cons.1 hy with h1 | hy
  ·rw [h1]; exact VStr.tx v h.1
  ·exact VStrs.tx vs h.2 y hy
theorem FStrs.tx {R : Nat} : ∀ (l : List F), FStrs R l → ∀ f ∈ l, VTx R f.v
 | [], _, _, h => by cases h
 | .mk k v :: vs, h, y, hy => by
  rw [FStrs, FStr] at h
  rcases List.mem_cons.1 hy with h1 | hy
  ·rw [h1]; exact VStr.tx v h.1.2
  ·exact FStrs.tx vs h.2 y hy
end
theorem child_tx {R : Nat} {v y : V} {loc : Loc} (h : VTx R v) (hc : v.child? loc = some y) : VTx R y := by
 cases loc with
 | l i => rw [child_l] at hc; exact h.l y (List.mem_of_getElem? hc)
 | o i =>
  rw [child_o, Option.map_eq_some_iff] at hc
  obtain ⟨f, h1, rfl⟩ := hc
  exact h.o f (List.mem_of_getElem? h1)
theorem getV_tx {R : Nat} : ∀ (p : List St) (v x : V), VTx R v → getV v p = some x → VTx R x
 | [], v, x, h, e => by simp only [getV, Option.some.injEq] at e; subst e; exact h
 | s :: p, v, x, h, e => by
  cases h1 : stepV v s with
  | none => simp only [getV, h1] at e; cases e
  | some loc =>
   obtain ⟨y, hy⟩ := stepV_child h1
   rw [getV_cons h1 hy] at e
   exact getV_tx p y x (child_tx h hy) e
theorem put_tx {R : Nat} {v x : V} {loc : Loc} (h : VTx R v) (hx : VTx R x) : VTx R (v.put loc x) := by
 refine .mk (by rw [put_s]; exact h.s) ?_ ?_
 ·cases loc with
  | l i =>
   rw [(put_l v i x).1]
   intro y hy
   rcases List.mem_or_eq_of_mem_set hy with hy | rfl
   ·exact h.l y hy
   ·exact hx
  | o i => rw [(put_o v i x).1]; exact h.l
 ·cases loc with
  | l i => rw [(put_l v i x).2]; exact h.o
  | o i =>
   rw [(put_o v i x).2]
   intro f hf
   cases e : v.o[i]? with
   | none => rw [e] at hf; exact h.o f hf
   | some g =>
    rw [e] at hf
    rcases List.mem_or_eq_of_mem_set hf with hf | rfl
    ·exact h.o f hf
    ·exact hx
theorem putV_tx {R : Nat} : ∀ (p : List St) (v x w : V), VTx R v → VTx R x → putV v p x = some w → VTx R w
 | [], v, x, w, _, hx, e => by simp only [putV, Option.some.injEq] at e; subst e; exact hx
 | s :: p, v, x, w, h, hx, e => by
  cases h1 : stepV v s with
  | none => simp only [putV, h1] at e; cases e
  | some loc =>
   obtain ⟨y, hy⟩ := stepV_child h1
   rw [putV_cons h1 hy, Option.map_eq_some_iff] at e
   obtain ⟨y', h2, rfl⟩ := e
   exact put_tx h (putV_tx p y x y' (child_tx h hy) hx h2)
theorem putV_sizem : ∀ (p : List St) (v x x' w : V), getV v p = some x → putV v p x' = some w → w.size + x.size = v.size + x'.size
 | [], v, x, x', w, hg, e => by simp only [putV, getV, Option.some.injEq] at e hg; subst e hg; omega
 | s :: p, v, x, x', w, hg, e => by
  cases h1 : stepV v s with
  | none => simp only [putV, h1] at e; cases e
  | some loc =>
   obtain ⟨y, hy⟩ := stepV_child h1
   rw [getV_cons h1 hy] at hg
   rw [putV_cons h1 hy, Option.map_eq_some_iff] at e
   obtain ⟨y', h2, rfl⟩ := e
   have h3 := putV_sizem p y x x' y' hg h2
   have h4 := put_size hy y'
   omega
theorem mem_eraseIdx' {α : Type} {l : List α} {i : Nat} {y : α} (h : y ∈ l.eraseIdx i) : y ∈ l := (List.eraseIdx_sublist l i).subset h
theorem doL_mem {l ys : List V} {c : Cm V} (h : doL l c = some ys) : ∀ y ∈ ys, y ∈ l ∨ y = c.x := by
 intro y hy
 unfold doL at h
 split at h
 ·split at h
  ·have h := Option.some.inj h
   subst h
   rcases List.mem_append.1 hy with hy | hy
   ·exact .inl (List.mem_of_mem_take hy)
   ·rcases List.mem_cons.1 hy with rfl | hy
    ·exact .inr rfl
    ·exact .inl (List.mem_of_mem_drop hy)
  ·split at h
   ·have h := Option.some.inj h
    subst h
    exact .inl (mem_eraseIdx' hy)
   ·split at h
    ·have h := Option.some.inj h
     subst h
     rcases List.mem_or_eq_of_mem_set hy with hy | rfl
     ·exact .inl hy
     ·exact .inr rfl
    ·rw [Option.map_eq_some_iff] at h
     obtain ⟨x, hx, rfl⟩ := h
     rcases List.mem_append.1 hy with hy | hy
     ·exact .inl (mem_eraseIdx' (List.mem_of_mem_take hy))
     ·rcases List.mem_cons.1 hy with rfl | hy
      ·exact .inl (List.mem_of_getElem? hx)
      ·exact .inl (mem_eraseIdx' (List.mem_of_mem_drop hy))
 ·cases h
theorem one_sv {R : Nat} (hR : R + 41 ≤ 900) {v z : V} {c : Cp} (hv : SV v) (ht : VTx R v) (h : OneOk v c) (hp : PDo v c z) : SV z ∧ VTx (R + 41) z := by
 obtain ⟨x, hg, hc, hz⟩ := hp
 obtain ⟨x', hg', _, _, h⟩ := h
 rw [hg] at hg'
 have hg' := Option.some.inj hg'
 subst hg'
 have hsx := getV_sv _ _ _ hv hg
 have htx := getV_tx _ _ _ ht hg
 have htx2 := htx.mono (show R ≤ R + 41 by omega)
 have ht2 := ht.mono (show R ≤ R + 41 by omega)
 have hs := (SV_iff x).1 hsx
 suffices SV (doX x c) ∧ VTx (R + 41) (doX x c) from ⟨putV_sv _ _ _ _ hv this.1 hz, putV_tx _ _ _ _ ht2 this.2 hz⟩
 rcases h with ⟨hk, n, _, h⟩ | ⟨hk, k, i, n, s, hto, h⟩ | ⟨hk, k, i, j, y, hl, hy, _, h⟩ | ⟨hk, k, key, y, hf, hy, _, h⟩
 ·have h1 := hc.k2 hk
  rw [doX_1 h1]
  refine ⟨?_, .mk htx2.s htx2.l htx2.o⟩
  rw [SV]
  refine ⟨?_, hs.2⟩
  rcases hs.1 with q | q | q | q | q | q <;> first | (rw [hk] at q; exact absurd q.1 (by decide)) | exact .inr (.inr (.inl q))
 ·obtain ⟨ha, htc, hb, _⟩ := hc.k3 hk
  have h8 : c.kind = 8 ∨ c.kind = 9 := htc.elim (fun h => .inl h.1) fun h => .inr h.1
  have hcs : c.s.size ≤ 41 := by
   rw [h]
   rcases hto with ⟨_, _, _, l, hl, _, rfl⟩ | ⟨_, _, rfl⟩
   ·show (textOf _).size ≤ 41; rw [text_size, List.length_cons]; omega
   ·show (⟨#[]⟩ : ByteArray).size ≤ 41; decide
  have hsz := textC_size htc
  have hxs := htx.s
  rw [doX_89 h8]
  refine ⟨?_, .mk (by show (textD x.s c).size ≤ R + 41; omega) htx2.l htx2.o⟩
  rw [SV]
  refine ⟨?_, hs.2⟩
  rcases hs.1 with q | q | q | q | q | q <;> first | (rw [hk] at q; exact absurd q.1 (by decide)) | exact .inr (.inr (.inr (.inl ⟨hk, q.2.1, ⟨textC_asc ha.b hb htc, by omega⟩, q.2.2.2⟩)))
 ·obtain ⟨ys, q1, q2⟩ := doX_l (hc.k4 hk)
  have hcv : c.v = y := by rw [h]
  have hm := doL_mem q1
  rw [q2]
  refine ⟨?_, .mk htx2.s (fun a ha => ?_) htx2.o⟩
  ·rw [SV]
   refine ⟨?_, (SVs_iff ys).2 fun a ha => ?_, hs.2.2⟩
   ·rcases hs.1 with q | q | q | q | q | q <;> first | (rw [hk] at q; exact absurd q.1 (by decide)) | exact .inr (.inr (.inr (.inr (.inl q))))
   ·rcases hm a ha with h | rfl
    ·exact (SVs_iff x.l).1 hs.2.1 a h
    ·show SV c.v; rw [hcv]; exact hy.1
  ·rcases hm a ha with h | rfl
   ·exact htx2.l a h
   ·show VTx (R + 41) c.v; rw [hcv]; exact (VStr.tx _ hy.2.2).mono (by omega)
 ·obtain ⟨hr, hk2⟩ := hc.k5 hk
  have hcv : c.v = y := by rw [h]
  have hck : c.key = key := by rw [h]
  rw [doX_23 (hk2.imp id fun h => h.1)]
  refine ⟨?_, .mk htx2.s htx2.l fun f hfm => ?_⟩
  ·show SV (.mk x.kind x.n x.s x.l (fldR _ _ _))
   rw [SV]
   refine ⟨?_, hs.2.1, (SFs_iff _).2 fun f hfm => ?_, fldR_rise _ _ _ hr⟩
   ·rcases hs.1 with q | q | q | q | q | q <;> first | (rw [hk] at q; exact absurd q.1 (by decide)) | exact .inr (.inr (.inr (.inr (.inr q))))
   ·rcases fldR_mem hfm with rfl | hfm
    ·rw [SF_iff]; exact ⟨by show Asc c.key; rw [hck]; exact hf.1, by show SV c.v; rw [hcv]; exact hy.1⟩
    ·exact (SFs_iff x.o).1 hs.2.2.1 f hfm
  ·rcases fldR_mem hfm with rfl | hfm
   ·show VTx (R + 41) c.v; rw [hcv]; exact (VStr.tx _ hy.2.2).mono (by omega)
   ·exact htx2.o f hfm
theorem aim_step {w0 : World} (hva : ValAny w0) (hD : DecAny w0) {R : Nat} (hR : R + 41 ≤ 900) {v : V} {c : Cp} (hv : SV v) (ht : VTx R v) (hz : v.size ≤ 90000) (h : OneOk v c) : ∃ z, PDo v c z ∧ Does w0 v c z ∧ SV z ∧ VTx (R + 41) z ∧ z.size ≤ v.size + 301 := by
 obtain ⟨sc, vc, ⟨z, pz⟩, _, _⟩ := one_ok hv (by omega) h
 obtain ⟨d, _⟩ := pdo_does hva hD sc (by omega) vc pz
 obtain ⟨h1, h2⟩ := one_sv hR hv ht h pz
 obtain ⟨x, hg, hc, hp⟩ := id pz
 have h3 := putV_sizem _ _ _ _ _ hg hp
 have h4 := doX_size hc
 exact ⟨z, pz, d, h1, h2, by omega⟩
theorem One6Is.form {v : V} {w w' : World} {e : Ending} (h : One6Is v w e w') : ∃ (k1 : Int) (A1 : Option Addr) (m1 c1 : Nat) (key1 : ByteArray) (i1 j1 n1 vk1 vn1 : Int) (vs1 : ByteArray) (B1 : Option Addr) (p1 q1 : Nat) (D1 : Option Addr) (r1 s1 : Nat) (t1 : ByteArray) (o : Int), e = .returned (.tuple #[.agg #[.int .u8 k1, .slice A1 m1 c1, .string key1, .int .i64 i1, .int .i64 j1, .int .i64 n1, .int .u8 vk1, .int .i64 vn1, .string vs1, .slice B1 p1 q1, .slice D1 r1 s1, .string t1], .int .i64 o]) ∧ (o = 0 ∨ (o = 1 ∧ ∃ c, CAt w' (fun q => w.heap.size ≤ q) (.agg #[.int .u8 k1, .slice A1 m1 c1, .string key1, .int .i64 i1, .int .i64 j1, .int .i64 n1, .int .u8 vk1, .int .i64 vn1, .string vs1, .slice B1 p1 q1, .slice D1 r1 s1, .string t1]) c ∧ OneOk v c)) ∧ Ext w w' := by
 obtain ⟨u, n, rfl, ⟨rfl, k1, A1, m1, c1, key1, i1, j1, n1, vk1, vn1, vs1, B1, p1, q1, D1, r1, s1, t1, rfl⟩ | ⟨rfl, c, hc, ho⟩, hE⟩ := h
 ·exact ⟨_, _, _, _, _, _, _, _, _, _, _, _, _, _, _, _, _, _, 0, rfl, .inl rfl, hE⟩
 ·obtain ⟨pv, lv, ov, rfl, h1, h2, h3⟩ := hc
  obtain ⟨A, cp, rfl, _⟩ := h1.shape
  obtain ⟨B, cl, rfl, _⟩ := h2.shape
  obtain ⟨D, co, rfl, _⟩ := h3.shape
  exact ⟨_, _, _, _, _, _, _, _, _, _, _, _, _, _, _, _, _, _, 1, rfl, .inr ⟨rfl, c, ⟨_, _, _, rfl, h1, h2, h3⟩, ho⟩, hE⟩
abbrev Wf (a : Ac) : Prop := (Lit.int .i64 a.i).wf = true ∧ (Lit.int .i64 a.j).wf = true ∧ (Lit.int .i64 a.n).wf = true
section
variable {P : Program} {α : Type} {E : El α} {w : World} {S S2 : BS} {t T : TypeId} {y : Value} {xs ys : List α} {bytes : Nat}
end
def OutD (K : Nat) (y : V) (n m : Nat) (v : Value) (w : World) : Prop := K ≤ n ∧ ∃ A c A' c', v = .tuple #[.agg (vC y A c A' c'), .bool true] ∧ VAt w (fun q => q < K ∨ (n ≤ q ∧ q < m)) (.agg (vC y A c A' c')) y
theorem OutD.ext {k : Nat} {y : V} {n m : Nat} {v : Value} {w w' : World} (h : OutD k y n m v w) (he : Ext w w') : OutD k y n m v w' := by
 obtain ⟨h0, A, c, A', c', e, h⟩ := h
 exact ⟨h0, A, c, A', c', e, h.ext he⟩
theorem DoneIs.out {w w' : World} {K : Nat} {S : BS} {z : V} {e : Ending} (h : DoneIs w S z e w') (hK : K ≤ w.heap.size) (hS : ∀ q, S q → q < K) : ∃ u, e = .returned u ∧ Ext w w' ∧ OutD K z w.heap.size w'.heap.size u w' := by
 obtain ⟨A, a, B, b, rfl, h1, hE⟩ := h
 refine ⟨_, rfl, hE, hK, A, a, B, b, rfl, h1.more fun k hk h2 => ?_⟩
 rcases h2 with h2 | h2
 ·exact .inl (hS k h2)
 ·exact .inr ⟨h2, hk⟩
theorem OutD.fill {y : V} {w0 w : World} {n m g k : Nat} {a0 a1 a2 a3 a4 b : Value} (hE : Ext w0 w) (hb : BoxQ w0.heap.size g k (.pointer (some ⟨g, 0, none⟩)) w) (hv : OutD w0.heap.size y n m (.tuple #[.agg #[a0, a1, a2, a3, a4], b]) w) (hap : k ≤ n ∨ m ≤ g) :
  Ext w0 (fillW w g a0 a1 a2 a3 a4) ∧ Blk (fillW w g a0 a1 a2 a3 a4) g TVAL #[a0, a1, a2, a3, a4] ∧ VAt (fillW w g a0 a1 a2 a3 a4) (fun _ => True) (.agg #[a0, a1, a2, a3, a4]) y := by
 obtain ⟨h0, A, c, A', c', h4, h5⟩ := hv
 simp only [Value.tuple.injEq, Array.mk.injEq, List.cons.injEq, Value.agg.injEq, and_true] at h4
 obtain ⟨⟨rfl, rfl, rfl, rfl, rfl⟩, _⟩ := h4
 have hk : Keep (· = g) w (fillW w g (U8 y.kind) (.int .i64 y.n) (.string y.s) (.slice A y.l.length c) (.slice A' y.o.length c')) := set5_keep w g 0 _ _ _ _ _
 refine ⟨hE.trans hk fun q hq e => by have := hb.1; omega, set5_to hb.2.2.2 rfl _ _ _ _ _, (h5.keep hk fun q hq e => ?_).more fun _ _ _ => trivial⟩
 subst e
 have h1 := hb.1
 have h2 := hb.2.2.1
 omega
def FullC (l : List Cp) (v : Value) (w : World) : Prop := ∃ ad, v = .slice (some ad) l.length l.length ∧ Sl ECp w (fun _ => True) v l
theorem FullC.ext {l : List Cp} {v : Value} {w w' : World} (h : FullC l v w) (he : Ext w w') : FullC l v w' := by
 obtain ⟨ad, e, h⟩ := h
 exact ⟨ad, e, h.ext ECp.ok he⟩
def SomeC (l : List Cp) (v : Value) (w : World) : Prop := Sl ECp w (fun _ => True) v l
theorem SomeC.ext {l : List Cp} {v : Value} {w w' : World} (h : SomeC l v w) (he : Ext w w') : SomeC l v w' := Sl.ext ECp.ok h he
theorem ty_cp : TyInfo Tryd.prog 43 TCMP 12 168 := by
 obtain ⟨i, h1, h2, h3, h4⟩ := info_parts (show (Tryd.prog.info? TCMP).map (fun i => (i.zero, i.size, i.bytes)) = some (some (.agg #[.int .u8 0, .slice none 0 0, .string ⟨#[]⟩, .int .i64 0, .int .i64 0, .int .i64 0, .int .u8 0, .int .i64 0, .string ⟨#[]⟩, .slice none 0 0, .slice none 0 0, .string ⟨#[]⟩]), 12, 168) from by kernel_rfl)
 exact ⟨Tryd.underlying43, i, _, h1, h2, h3, h4, rfl⟩
theorem full_new2 {w : World} {S : BS} {c : Cp} {pv lv ov : Value} (h1 : Sl ESt w S pv c.path) (h2 : Sl EVal w S lv c.v.l) (h3 : Sl EField w S ov c.v.o) :
  Sl ECp (w.alloc (.cells (cpCells c pv lv ov) TCMP)) (fun q => S q ∨ q = w.heap.size) (.slice (some ⟨w.heap.size, 0, none⟩) 1 1) [c] := by
 have hE : Ext w (w.alloc (.cells (cpCells c pv lv ov) TCMP)) := (Keep.refl _ _).alloc _
 refine ⟨cpL c pv lv ov, ⟨rfl, _, 1, rfl, Nat.le_refl _, by simp [maxLen], fun _ => ⟨w.heap.size, 0, rfl, .inr rfl, (Blk.new _ _ _).lt, fun j u hu => ?_⟩⟩, Cells.single ⟨pv, lv, ov, rfl, (h1.ext ESt.ok hE).more ESt.ok fun _ _ h => .inl h, (h2.ext EVal.ok hE).more EVal.ok fun _ _ h => .inl h, (h3.ext EField.ok hE).more EField.ok fun _ _ h => .inl h⟩⟩
 rw [Nat.zero_add, (Blk.new w TCMP (cpCells c pv lv ov)).cell]
 simpa using hu
end Go.Proofs.YtggkidnlmaindaaDoor
