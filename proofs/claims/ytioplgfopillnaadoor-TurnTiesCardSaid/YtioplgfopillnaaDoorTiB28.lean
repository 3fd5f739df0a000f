/- TiesA, TurnP, Do6F: laid together. -/
import Derived.Test.YtioplgfopillnaaDoorTiB26
import Derived.Test.YtioplgfopillnaaDoorTiB27
import Derived.Test.YtioplgfopillnaaDoorTiB20
import Derived.Test.YtioplgfopillnaaDoorTiB18
import Derived.Test.YtioplgfopillnaaDoorTiB17
/- The plain laws of what is put at one key twice, or taken away and put; sound components that put, and take away. No walk. -/
set_option linter.unusedSimpArgs false
set_option linter.unusedVariables false
namespace Go.Proofs.YtioplgfopillnaaDoor
open Go.RowKit
set_option linter.unusedVariables false

/-! ### Values that are sound by their making, are one (from chapter 01) -/
theorem rise_risesB {o : List F} (h : Rise o) : risesB o = true := (risesB_iff o).2 fun _ hi => rise_at h hi
theorem kind_plain {k : UInt8} {n : Int} {s : ByteArray} {l : List V} {o : List F} (h : KindOk k n s l o) : plainB (.mk k n s l o) = true := by
  rcases h with ⟨rfl, rfl, rfl, rfl, rfl⟩ | ⟨rfl, hn, rfl, rfl, rfl⟩ | ⟨rfl, rfl, rfl, rfl⟩ | ⟨rfl, rfl, hs, rfl, rfl⟩ | ⟨rfl, rfl, rfl, rfl⟩ | ⟨rfl, rfl, rfl, rfl⟩
  · simp [plainB, V.kind, V.n, V.s, V.l, V.o, ByteArray.toList_eq]
  · rcases hn with rfl | rfl <;> simp [plainB, V.kind, V.n, V.s, V.l, V.o, ByteArray.toList_eq]
  · simp [plainB, V.kind, V.s, V.l, V.o, ByteArray.toList_eq]
  · have := valid_asc hs
    simp [plainB, V.kind, V.n, V.s, V.l, V.o, this]
  · simp [plainB, V.kind, V.n, V.s, V.o, ByteArray.toList_eq]
  · simp [plainB, V.kind, V.n, V.s, V.l, ByteArray.toList_eq]
mutual
theorem SV.snd : ∀ (v : V), SV v → v.snd = true
  | .mk k n s l o, h => by
    rw [SV] at h
    rw [V.snd, kind_plain h.1, rise_risesB h.2.2.2, SVs.snd l h.2.1, SFs.snd o h.2.2.1]; rfl
theorem SVs.snd : ∀ (l : List V), SVs l → V.snds l = true
  | [], _ => by rw [V.snds]
  | v :: vs, h => by rw [SVs] at h; rw [V.snds, SV.snd v h.1, SVs.snd vs h.2]; rfl
theorem SF.snd : ∀ (f : F), SF f → F.snd f = true
  | .mk k v, h => by rw [SF] at h; rw [F.snd, valid_asc h.1, SV.snd v h.2]; rfl
theorem SFs.snd : ∀ (l : List F), SFs l → F.snds l = true
  | [], _ => by rw [F.snds]
  | v :: vs, h => by rw [SFs] at h; rw [F.snds, SF.snd v h.1, SFs.snd vs h.2]; rfl
end
mutual
theorem VStr.mono {R R' : Nat} (hR : R ≤ R') : ∀ (v : V), VStr R v → VStr R' v
  | .mk k n s l o, h => by
    rw [VStr] at h ⊢
    exact ⟨Nat.le_trans h.1 hR, VStrs.mono hR l h.2.1, FStrs.mono hR o h.2.2⟩
theorem VStrs.mono {R R' : Nat} (hR : R ≤ R') : ∀ (l : List V), VStrs R l → VStrs R' l
  | [], _ => by rw [VStrs]; trivial
  | v :: vs, h => by rw [VStrs] at h ⊢; exact ⟨VStr.mono hR v h.1, VStrs.mono hR vs h.2⟩
theorem FStr.mono {R R' : Nat} (hR : R ≤ R') : ∀ (f : F), FStr R f → FStr R' f
  | .mk k v, h => by rw [FStr] at h ⊢; exact ⟨Nat.le_trans h.1 hR, VStr.mono hR v h.2⟩
theorem FStrs.mono {R R' : Nat} (hR : R ≤ R') : ∀ (l : List F), FStrs R l → FStrs R' l
  | [], _ => by rw [FStrs]; trivial
  | v :: vs, h => by rw [FStrs] at h ⊢; exact ⟨FStr.mono hR v h.1, FStrs.mono hR vs h.2⟩
end
theorem SV.big {v : V} (h : SV v) : VStr BigR v := VStr.mono (by unfold BigR; decide) v (SV.str v h)
theorem key_self (K : ByteArray) : keyLt K K = false := less_irrefl K.toList
theorem fieldIs_with (o : List F) (K : ByteArray) (x : V) : fieldIs (withL o K x) K = true := by
  have hl := fieldL_le o K
  have hn : (o.take (fieldL o K)).length = fieldL o K := by rw [List.length_take]; omega
  have ht : ∀ f ∈ o.take (fieldL o K), keyLt f.key K = true := fun f hf => take_fieldL_lt hf
  unfold withL
  generalize o.take (fieldL o K) = a at *
  generalize o.drop (if fieldIs o K = true then fieldL o K + 1 else fieldL o K) = b at *
  have hlt : a.length < (a ++ F.mk K x :: b).length := by simp
  have hf : fieldL (a ++ F.mk K x :: b) K = a.length := by
    refine fieldL_at (by omega) (fun i hi hij => ?_) fun _ => by rw [List.getElem_append_right (Nat.le_refl _)]; simpa [F.key] using key_self K
    rw [List.getElem_append_left hij]
    exact ht _ (List.getElem_mem _)
  rw [fieldIs_some hlt hf, List.getElem_append_right (Nat.le_refl _)]
  simp [F.key]
/-! ### Fields put and taken away -/
theorem key_self0 (K : ByteArray) : geB K K = true := by unfold geB; rw [less_irrefl]; rfl
theorem fldR_true (f : F) : ∀ o : List F, fldR f true o = o.filter fun y => !(y.key.toList == f.key.toList)
  | [] => rfl
  | y :: ys => by
    rw [fldR, Bool.true_or, fldR_true f ys]
    cases h : (y.key.toList == f.key.toList) <;> simp [h]
theorem fld_filter_true {f : F} {o : List F} (g : F) (hg : g.key = f.key) : fldR g true (o.filter fun y => !(y.key.toList == f.key.toList)) = o.filter fun y => !(y.key.toList == f.key.toList) := by
  rw [fldR_true, hg, List.filter_filter]
  congr 1
  funext y
  cases (y.key.toList == f.key.toList) <;> rfl
theorem fldR_two (f g : F) (hk : g.key = f.key) : ∀ o : List F, fldR f false (fldR g false o) = fldR f false o
  | [] => by simp [fldR, hk, key_self0]
  | y :: ys => by
    cases hge : geB y.key f.key with
    | false =>
      have hne : (y.key.toList == f.key.toList) = false := by
        cases h : (y.key.toList == f.key.toList) with
        | false => rfl
        | true =>
          have : y.key = f.key := key_eq (by simpa using h)
          rw [this, key_self0] at hge; cases hge
      rw [fldR, hk, hge, hne]
      simp only [Bool.and_false, Bool.false_eq_true, if_false, List.nil_append, Bool.or_false, Bool.not_false, List.singleton_append]
      conv => rhs; rw [fldR, hge, hne]
      rw [fldR, hge, hne]
      simp only [Bool.and_false, Bool.false_eq_true, if_false, List.nil_append, Bool.or_false, List.singleton_append]
      rw [fldR_two f g hk ys]
    | true =>
      rw [fldR, hk, hge]
      conv => rhs; rw [fldR, hge]
      simp only [Bool.not_false, Bool.and_true, if_true, Bool.or_true, List.singleton_append]
      have h1 : (g.key.toList == f.key.toList) = true := by rw [hk]; simp
      rw [fldR, hk, key_self0]
      simp only [Bool.not_false, Bool.and_true, if_true, Bool.or_true, beq_self_eq_true, List.nil_append, List.singleton_append]
      congr 1
      rw [fldR_true g ys, hk]
      cases h : (y.key.toList == f.key.toList) with
      | true => simp only [if_true, List.nil_append]; rw [fld_filter_true f rfl, fldR_true]
      | false =>
        simp only [Bool.false_eq_true, if_false, List.singleton_append]
        rw [fldR, h, Bool.true_or, fld_filter_true f rfl, fldR_true]
        simp
theorem fldR_above (f : F) {o : List F} (h : ∀ y ∈ o, keyLt f.key y.key = true) : fldR f false o = f :: o := by
  cases o with
  | nil => rfl
  | cons y ys =>
    have hy := h y List.mem_cons_self
    have hge : geB y.key f.key = true := by
      unfold geB
      cases hc : Op.bytesLess y.key.toList f.key.toList with
      | false => rfl
      | true => have h5 := less_trans (show Op.bytesLess f.key.toList y.key.toList = true from hy) hc; rw [less_irrefl] at h5; cases h5
    have hnk : ∀ z ∈ y :: ys, (z.key.toList == f.key.toList) = false := fun z hz => by
      cases hc : (z.key.toList == f.key.toList) with
      | false => rfl
      | true =>
        have h6 := h z hz
        have h7 : z.key.toList = f.key.toList := by simpa using hc
        have h8 : Op.bytesLess f.key.toList z.key.toList = true := h6
        rw [h7, less_irrefl] at h8; cases h8
    rw [fldR, hge, hnk y List.mem_cons_self]
    simp only [Bool.not_false, Bool.and_true, if_true, Bool.or_true, Bool.false_eq_true, if_false, List.singleton_append]
    rw [fldR_true, List.filter_eq_self.2 fun z hz => by rw [hnk z (List.mem_cons_of_mem _ hz)]; rfl]
theorem fldR_del (f g : F) (hk : g.key = f.key) : ∀ o : List F, Rise o → fldR f false (fldR g true o) = fldR f false o
  | [], _ => rfl
  | y :: ys, hr => by
    rw [fldR_true, hk]
    cases hke : (y.key.toList == f.key.toList) with
    | true =>
      have hyk : y.key = f.key := key_eq (by simpa using hke)
      have hab : ∀ z ∈ ys, keyLt f.key z.key = true := fun z hz => by rw [← hyk]; exact hr.1 z hz
      have hnk : ∀ z ∈ ys, (z.key.toList == f.key.toList) = false := fun z hz => by
        cases hc : (z.key.toList == f.key.toList) with
        | false => rfl
        | true =>
          have h7 : z.key.toList = f.key.toList := by simpa using hc
          have h8 : Op.bytesLess f.key.toList z.key.toList = true := hab z hz
          rw [h7, less_irrefl] at h8; cases h8
      have hf : (y :: ys).filter (fun y => !(y.key.toList == f.key.toList)) = ys := by
        rw [List.filter_cons, hke]
        simp only [Bool.not_true, Bool.false_eq_true, if_false]
        exact List.filter_eq_self.2 fun z hz => by rw [hnk z hz]; rfl
      rw [hf, fldR_above f hab, fldR, hyk, key_self0]
      simp only [Bool.not_false, Bool.and_true, if_true, Bool.or_true, beq_self_eq_true, List.nil_append, List.singleton_append]
      rw [fldR_true, List.filter_eq_self.2 fun z hz => by rw [hnk z hz]; rfl]
    | false =>
      have hf : (y :: ys).filter (fun y => !(y.key.toList == f.key.toList)) = y :: ys.filter (fun y => !(y.key.toList == f.key.toList)) := by
        rw [List.filter_cons, hke]; rfl
      rw [hf]
      cases hge : geB y.key f.key with
      | false =>
        have ih := fldR_del f g hk ys hr.2
        rw [fldR_true, hk] at ih
        rw [fldR, hge, hke]
        conv => rhs; rw [fldR, hge, hke]
        simp only [Bool.and_false, Bool.false_eq_true, if_false, List.nil_append, Bool.or_false, List.singleton_append]
        rw [ih]
      | true =>
        rw [fldR, hge, hke]
        conv => rhs; rw [fldR, hge, hke]
        simp only [Bool.not_false, Bool.and_true, if_true, Bool.or_true, Bool.false_eq_true, if_false, List.singleton_append]
        rw [fld_filter_true f rfl, fldR_true]
theorem sizes_filter (p : F → Bool) : ∀ o : List F, F.sizes (o.filter p) ≤ F.sizes o
  | [] => Nat.le_refl _
  | y :: ys => by
    have h := sizes_filter p ys
    rw [List.filter_cons, F.sizes]
    split
    · rw [F.sizes]; omega
    · omega
theorem fldR_sizes (f : F) : ∀ (dn : Bool) (o : List F), F.sizes (fldR f dn o) ≤ f.size + F.sizes o
  | dn, [] => by cases dn <;> simp [fldR, F.sizes]
  | dn, y :: ys => by
    have h1 := fldR_sizes f (dn || geB y.key f.key) ys
    have h2 : F.sizes (fldR f true ys) ≤ F.sizes ys := by rw [fldR_true]; exact sizes_filter _ ys
    rw [fldR, F.sizes_append, F.sizes_append, F.sizes]
    have h3 : F.sizes (if (y.key.toList == f.key.toList) = true then [] else [y]) ≤ y.size := by split <;> simp [F.sizes]
    cases hc : (!dn && geB y.key f.key) with
    | true =>
      have hg : geB y.key f.key = true := by cases dn <;> simp_all
      rw [hg, Bool.or_true] at h1 ⊢
      simp only [if_true, F.sizes]
      omega
    | false =>
      simp only [Bool.false_eq_true, if_false, F.sizes]
      omega
/-! ### How much Build's value weighs -/
mutual
theorem V.weigh : ∀ (v : V), VStr 40 v → v.weight + 40 ≤ 81 * v.size
  | .mk k n s l o, h => by
    rw [VStr] at h
    have h1 := V.weighs l h.2.1
    have h2 := F.weighs o h.2.2
    rw [V.weight, V.size]
    omega
theorem V.weighs : ∀ (l : List V), VStrs 40 l → V.weights l ≤ 81 * V.sizes l
  | [], _ => by rw [V.weights]; omega
  | v :: vs, h => by
    rw [VStrs] at h
    have h1 := V.weigh v h.1
    have h2 := V.weighs vs h.2
    rw [V.weights, V.sizes]; omega
theorem F.weighs : ∀ (l : List F), FStrs 40 l → F.weights l ≤ 81 * F.sizes l
  | [], _ => by rw [F.weights]; omega
  | .mk k v :: vs, h => by
    rw [FStrs, FStr] at h
    have h1 := V.weigh v h.1.2
    have h2 := F.weighs vs h.2
    rw [F.weights, F.sizes, F.weight, F.size]; omega
end
theorem snd6_put {K : ByteArray} {x : V} (hK : Asc K) (hx : SVd 0 x) (hz : x.size ≤ 241) : Snd6 ⟨2, [], K, 0, 0, 0, x, ⟨#[]⟩⟩ := by
  have hw := V.weigh x hx.2.2
  have hd := hx.2.1
  exact { kind := (show 1 ≤ (2 : UInt8).toNat ∧ (2 : UInt8).toNat ≤ 9 from by decide), path := ⟨Nat.zero_le _, rfl⟩, K := .inl rfl, I := .inr rfl, J := .inr rfl, N := .inr rfl, S := .inr rfl, V := .inl rfl, vkey := valid_asc hK, vs := rfl, i0 := Int.le_refl _, j0 := Int.le_refl _,
          tins := fun h => absurd (show (2 : UInt8).toNat = 8 from h) (by decide), tdel := fun h => absurd (show (2 : UInt8).toNat = 9 from h) (by decide), snd := SV.snd x hx.1, deep := by show ([] : List St).length + 1 + x.deep ≤ 16; simp only [List.length_nil]; omega, weight := by show x.weight ≤ 20000; omega, big := SV.big hx.1, size := by show x.size ≤ 1000000; omega,
          zk := by show K.size ≤ 1000000; have := hK.2; omega, zs := by show (⟨#[]⟩ : ByteArray).size ≤ 1000000; decide, pk := fun s hs => by cases hs }
theorem snd6_del {K : ByteArray} (hK : Asc K) : Snd6 ⟨3, [], K, 0, 0, 0, .mk 0 0 ⟨#[]⟩ [] [], ⟨#[]⟩⟩ := by
  have hsv : SV (.mk 0 0 ⟨#[]⟩ [] []) := flat_sv (.inl ⟨rfl, rfl, rfl, rfl, rfl⟩)
  exact { kind := (show 1 ≤ (3 : UInt8).toNat ∧ (3 : UInt8).toNat ≤ 9 from by decide), path := ⟨Nat.zero_le _, rfl⟩, K := .inl rfl, I := .inr rfl, J := .inr rfl, N := .inr rfl, S := .inr rfl, V := .inr rfl, vkey := valid_asc hK, vs := rfl, i0 := Int.le_refl _, j0 := Int.le_refl _,
          tins := fun h => absurd (show (3 : UInt8).toNat = 8 from h) (by decide), tdel := fun h => absurd (show (3 : UInt8).toNat = 9 from h) (by decide), snd := SV.snd _ hsv, deep := by show ([] : List St).length + 1 + (V.mk 0 0 ⟨#[]⟩ [] []).deep ≤ 16; simp [V.deep, V.deeps, F.deeps], weight := by show (V.mk 0 0 ⟨#[]⟩ [] []).weight ≤ 20000; simp [V.weight, V.weights, F.weights, ByteArray.size], big := SV.big hsv, size := by show (V.mk 0 0 ⟨#[]⟩ [] []).size ≤ 1000000; rw [flat_size]; decide,
          zk := by show K.size ≤ 1000000; have := hK.2; omega, zs := by show (⟨#[]⟩ : ByteArray).size ≤ 1000000; decide, pk := fun s hs => by cases hs }
end Go.Proofs.YtioplgfopillnaaDoor

/- Lists of components in memory; turn.own by contract: each gets its own memory, the list reads as it did. -/
set_option linter.unusedSimpArgs false
set_option linter.unusedVariables false
namespace Go.Proofs.YtioplgfopillnaaDoor
open Go.RowKit
set_option linter.unusedVariables false

abbrev cpL (c : Cp) (pv lv ov : Value) : List Value := [U8 c.kind, pv, .string c.key, .int .i64 c.i, .int .i64 c.j, .int .i64 c.n, U8 c.v.kind, .int .i64 c.v.n, .string c.v.s, lv, ov, .string c.s]
/-- A component as an element. -/
def ECp : El Cp := { size := 12, rd := fun w S cs c => ∃ pv lv ov, cs = cpL c pv lv ov ∧ Sl ESt w S pv c.path ∧ Sl EVal w S lv c.v.l ∧ Sl EField w S ov c.v.o }
theorem ECp.ok : ECp.Ok where
  pos := by show 0 < 12; decide
  len := fun ⟨_, _, _, h, _⟩ => by subst h; rfl
  one := fun ⟨pv, lv, ov, h, h1, h2, h3⟩ u hu => by
    subst h
    obtain ⟨A, c, rfl, _⟩ := h1.shape
    obtain ⟨B, d, rfl, _⟩ := h2.shape
    obtain ⟨C, e, rfl, _⟩ := h3.shape
    simp only [List.mem_cons, List.not_mem_nil, or_false] at hu
    rcases hu with rfl | rfl | rfl | rfl | rfl | rfl | rfl | rfl | rfl | rfl | rfl | rfl <;> rfl
  keep := fun ⟨pv, lv, ov, h, h1, h2, h3⟩ hk hF => ⟨pv, lv, ov, h, h1.keep ESt.ok hk hF, h2.keep EVal.ok hk hF, h3.keep EField.ok hk hF⟩
  more := fun ⟨pv, lv, ov, h, h1, h2, h3⟩ hS => ⟨pv, lv, ov, h, h1.more ESt.ok hS, h2.more EVal.ok hS, h3.more EField.ok hS⟩
theorem cells_blk {g : Nat} {T : TypeId} : ∀ (m : List Value) (o : Nat) (w : World) (cur : Array Value), Blk w g T cur → o + m.length ≤ cur.size →
    ∃ cur', Blk (w.setCells g o m) g T cur' ∧ cur'.toList = cur.toList.take o ++ m ++ cur.toList.drop (o + m.length)
  | [], o, w, cur, h, ho => ⟨cur, h, by simp⟩
  | v :: m, o, w, cur, h, ho => by
    have ho' : o + (m.length + 1) ≤ cur.size := ho
    obtain ⟨cur', h1, h2⟩ := cells_blk m (o + 1) _ _ (h.set_ o v) (by rw [Array.size_setIfInBounds]; omega)
    refine ⟨cur', h1, ?_⟩
    have hl : o < cur.toList.length := by simp; omega
    rw [h2, Array.toList_setIfInBounds, List.set_eq_take_append_cons_drop, if_pos hl]
    have e0 : (cur.toList.take o).length = o := by rw [List.length_take]; omega
    have e1 : (cur.toList.take o ++ v :: cur.toList.drop (o + 1)).take (o + 1) = cur.toList.take o ++ [v] := by
      rw [List.take_append, e0, List.take_of_length_le (by omega), Nat.add_sub_cancel_left]; rfl
    have e2 : (cur.toList.take o ++ v :: cur.toList.drop (o + 1)).drop (o + 1 + m.length) = cur.toList.drop (o + (v :: m).length) := by
      rw [List.drop_append, e0, List.drop_of_length_le (by omega), List.nil_append, show o + 1 + m.length - o = m.length + 1 from by omega, List.drop_succ_cons, List.drop_drop]
      congr 1
      show o + 1 + m.length = o + (m.length + 1)
      omega
    rw [e1, e2]; simp
theorem cells_keep (g : Nat) : ∀ (m : List Value) (o : Nat) (w : World), Keep (· = g) w (w.setCells g o m)
  | [], o, w => Keep.refl _ _
  | v :: m, o, w => ((Keep.refl (· = g) w).set1 o v).trans (cells_keep g m (o + 1) _) fun _ _ h => h
/-- One component of an own row, stored over by a copy of it. -/
theorem own_put {w : World} {base g cap j : Nat} {S S2 : BS} {xs : List Cp} {m : List Value} (h : Own ECp w base TCMP S (.slice (some ⟨g, 0, none⟩) xs.length cap) xs) (hj : j < xs.length) (hS : ¬ S g) (hS2 : ¬ S2 g) (hx : ECp.rd w S2 m xs[j]) :
    Own ECp (w.setCells g (j * 12) m) base TCMP (fun k => S k ∨ S2 k) (.slice (some ⟨g, 0, none⟩) xs.length cap) xs := by
  obtain ⟨cur, hbg, _, hblk, hcap, hcm, hsz, hc⟩ := own_cells2 h
  have e12 : ECp.size = 12 := rfl
  rw [e12] at hsz
  have hml : m.length = 12 := ECp.ok.len hx
  have h6 : (j + 1) * 12 ≤ cap * 12 := Nat.mul_le_mul_right _ (by omega)
  obtain ⟨cur', hb', hl'⟩ := cells_blk m (j * 12) w cur hblk (by omega)
  have hkk := cells_keep g m (j * 12) w
  rw [hml] at hl'
  have := own_set ECp.ok hc hbg hcap hcm hsz hj hkk hb' hl' (ECp.ok.keep hx hkk fun k hk e => hS2 (e ▸ hk)) hS
  rw [List.set_getElem_self] at this
  exact this
/-- A row of components of the call's own, whose data lie elsewhere. -/
def OwnC (b : Nat) (g cap n : Nat) (l : List Cp) (w : World) : Prop := Own ECp w b TCMP (fun k => k ≠ g) (.slice (some ⟨g, 0, none⟩) n cap) l
/-- How long paths may be, how great values. -/
abbrev Fit (c : Cp) : Prop := c.path.length ≤ 1000 ∧ c.v.size ≤ 1000000
def OwnIs (b g cap n : Nat) (l : List Cp) (w : World) (e : Ending) (w' : World) : Prop := e = .returned (.slice (some ⟨g, 0, none⟩) n cap) ∧ OwnC b g cap n l w' ∧ Keep (· = g) w w'
theorem ownc_put {b g cap n j : Nat} {l : List Cp} {w0 w : World} {c : Cp} {pv lv ov : Value} (h : OwnC b g cap n l w) (hn : l.length = n) (hj : j < n) (hc : l[j]? = some c)
    (h1 : Sl ESt w (fun k => w0.heap.size ≤ k) pv c.path) (h2 : Sl EVal w (fun k => w0.heap.size ≤ k) lv c.v.l) (h3 : Sl EField w (fun k => w0.heap.size ≤ k) ov c.v.o) (hg : g < w0.heap.size) :
    OwnC b g cap n l (w.setCells g (j * 12) (cpL c pv lv ov)) := by
  subst hn
  have hj' : l[j] = c := (List.getElem?_eq_some_iff.1 hc).2
  have hr : ECp.rd w (fun k => w0.heap.size ≤ k) (cpL c pv lv ov) l[j] := by rw [hj']; exact ⟨pv, lv, ov, rfl, h1, h2, h3⟩
  have := own_put h hj (by simp) (by show ¬ _; omega) hr
  exact Own.more ECp.ok this fun k _ hk => by
    rcases hk with hk | hk
    · exact hk
    · show k ≠ g; omega
theorem Sl.lt_ {w : World} {S : BS} {v : Value} {l : List Cp} (h : Sl ECp w S v l) : Sl ECp w (fun k => k < w.heap.size) v l := h.more ECp.ok fun _ h1 _ => h1
set_option maxRecDepth 20000 in
set_option maxHeartbeats 3200000 in
theorem own_any (w : World) (b g cap n : Nat) (l : List Cp) (h : OwnC b g cap n l w) (hn : l.length = n) (hl : n ≤ 1000) (hf : ∀ c ∈ l, Fit c) :
    Calls Tryd.prog 28 #[.slice (some ⟨g, 0, none⟩) n cap] w (OwnIs b g cap n l w) := by
  have H := hid h
  have HF := hid hf
  have HN := hid hn
  have hcap : n ≤ cap ∧ cap ≤ maxLen ∧ g < w.heap.size := by
    obtain ⟨cur, _, _, hblk, h1, h2, _⟩ := own_cells2 (show Own ECp w b TCMP _ _ l from h)
    exact ⟨by omega, h2, hblk.lt⟩
  obtain ⟨hc1, hc2, hg⟩ := hcap
  unfold maxLen at hc2
  have HG := hid hg
  clear h hf hn hg
  go_enter Tryd.func28, Tryd.ntmps28
  go_wp2_with fail
  go_loopw [6] (fun i wr => ∃ j : Nat, j ≤ n ∧ i = .int .i64 j ∧ OwnC b g cap n l wr ∧ Keep (· = g) w wr) (fun i _ => n - (intOf i).toNat)
  case atStart => exact ⟨0, by omega, rfl, H.out, Keep.refl _ _⟩
  case round =>
    obtain ⟨j, hj, rfl, hO, hK⟩ := hrel
    by_cases hlt : j < n
    · have hj' : j < l.length := by rw [HN.out]; exact hlt
      obtain ⟨c0, ⟨pv, lv, ov, rfl, h1, h2, h3⟩, hcell⟩ := Own.at_ ECp.ok hO hj'
      have HFJ := hid (HF.out _ (List.getElem_mem hj'))
      have HJ := hid (List.getElem?_eq_some_iff.2 ⟨hj', rfl⟩ : l[j]? = some l[j])
      generalize l[j] = c at *
      have HCA := hid (show CAt wr _ (.agg (cpCells c pv lv ov)) c from ⟨pv, lv, ov, rfl, h1, h2, h3⟩)
      obtain ⟨Ap, cp, rfl, _⟩ := h1.shape
      obtain ⟨Al, cl, rfl, _⟩ := h2.shape
      obtain ⟨Ao, co, rfl, _⟩ := h3.shape
      have hfz := fun i => Own.frozen hO i
      have e12 : ECp.size = 12 := rfl
      have g0 := hcell 0 _ rfl
      have g1 := hcell 1 _ rfl
      have g2 := hcell 2 _ rfl
      have g3 := hcell 3 _ rfl
      have g4 := hcell 4 _ rfl
      have g5 := hcell 5 _ rfl
      have g6 := hcell 6 _ rfl
      have g7 := hcell 7 _ rfl
      have g8 := hcell 8 _ rfl
      have g9 := hcell 9 _ rfl
      have g10 := hcell 10 _ rfl
      have g11 := hcell 11 _ rfl
      simp only [e12, Nat.add_zero] at g0 g1 g2 g3 g4 g5 g6 g7 g8 g9 g10 g11
      have z0 := hfz (j * 12)
      have z1 := hfz (j * 12 + 1)
      have z2 := hfz (j * 12 + 2)
      have z3 := hfz (j * 12 + 3)
      have z4 := hfz (j * 12 + 4)
      have z5 := hfz (j * 12 + 5)
      have z6 := hfz (j * 12 + 6)
      have z7 := hfz (j * 12 + 7)
      have z8 := hfz (j * 12 + 8)
      have z9 := hfz (j * 12 + 9)
      have z10 := hfz (j * 12 + 10)
      have z11 := hfz (j * 12 + 11)
      have HO := hid hO
      have HK := hid hK
      clear hO hK hcell hfz h1 h2 h3
      go_wp2_with fail
      refine (comp_copy _ _ _ c HCA.out HFJ.out.1 HFJ.out.2).mono ?_
      rintro e w1 ⟨u', rfl, ⟨qv, mv, nv, rfl, k1, k2, k3⟩, hE1⟩
      obtain ⟨Bp, dp, rfl, _⟩ := k1.shape
      obtain ⟨Bl, dl, rfl, _⟩ := k2.shape
      obtain ⟨Bo, do_, rfl, _⟩ := k3.shape
      have hO1 : OwnC b g cap n l w1 := Own.ext ECp.ok HO.out hE1
      have hfz1 := fun i => Own.frozen hO1 i

      replace g0 := (hE1.cell (lt_of_cell g0) id).trans g0
      replace g1 := (hE1.cell (lt_of_cell g1) id).trans g1
      replace g2 := (hE1.cell (lt_of_cell g2) id).trans g2
      replace g3 := (hE1.cell (lt_of_cell g3) id).trans g3
      replace g4 := (hE1.cell (lt_of_cell g4) id).trans g4
      replace g5 := (hE1.cell (lt_of_cell g5) id).trans g5
      replace g6 := (hE1.cell (lt_of_cell g6) id).trans g6
      replace g7 := (hE1.cell (lt_of_cell g7) id).trans g7
      replace g8 := (hE1.cell (lt_of_cell g8) id).trans g8
      replace g9 := (hE1.cell (lt_of_cell g9) id).trans g9
      replace g10 := (hE1.cell (lt_of_cell g10) id).trans g10
      replace g11 := (hE1.cell (lt_of_cell g11) id).trans g11
      replace z0 := hfz1 (j * 12)
      replace z1 := hfz1 (j * 12 + 1)
      replace z2 := hfz1 (j * 12 + 2)
      replace z3 := hfz1 (j * 12 + 3)
      replace z4 := hfz1 (j * 12 + 4)
      replace z5 := hfz1 (j * 12 + 5)
      replace z6 := hfz1 (j * 12 + 6)
      replace z7 := hfz1 (j * 12 + 7)
      replace z8 := hfz1 (j * 12 + 8)
      replace z9 := hfz1 (j * 12 + 9)
      replace z10 := hfz1 (j * 12 + 10)
      replace z11 := hfz1 (j * 12 + 11)
      have hN := ownc_put hO1 HN.out hlt HJ.out k1 k2 k3 (by have := HG.out; have := HK.out.size; omega)
      have hKN : Keep (· = g) w (w1.setCells g (j * 12) (cpL c (.slice Bp c.path.length dp) (.slice Bl c.v.l.length dl) (.slice Bo c.v.o.length do_))) := (HK.out.trans hE1 fun _ _ h => h.elim).trans (cells_keep g _ _ _) fun _ _ h => h
      have HNN := hid hN
      have HKN := hid hKN
      clear hN hKN hO1 hfz1 hE1 k1 k2 k3
      go_wp2
      exact ⟨⟨j + 1, by omega, by go_num, HNN.out, HKN.out⟩, by simp [intOf]; omega⟩
    · have hjn : j = n := by omega
      subst hjn
      have HO := hid hO
      have HK := hid hK
      clear hO hK
      go_wp2
      go_ret
      exact ⟨rfl, HO.out, HK.out⟩

/-- A list of components, each of its own memory. -/
def ListIs (w : World) (v : Value) (l : List Cp) (e : Ending) (w' : World) : Prop := e = .returned v ∧ Sl ECp w' (fun k => k < w'.heap.size) v l ∧ Keep (fun k => v.ownBlock = some k) w w'
theorem own_list (w : World) (b : Nat) (S : BS) (v : Value) (l : List Cp) (h : Own ECp w b TCMP S v l) (hS : ∀ g, v.ownBlock = some g → ¬ S g) (hl : l.length ≤ 1000) (hf : ∀ c ∈ l, Fit c) :
    Calls Tryd.prog 28 #[v] w (ListIs w v l) := by
  rcases Nat.eq_zero_or_pos l.length with h0 | h0
  · obtain rfl := List.eq_nil_of_length_eq_zero h0
    rcases h with ⟨rfl, _⟩ | ⟨g, cap, cur, rfl, h1, h2, h3, h4, h5, h6⟩
    · exact (own_nil w).mono fun e w' h => ⟨h.1, Sl.nil _ _, by rw [h.2]; exact Keep.refl _ _⟩
    · refine (own_any w b g cap 0 [] (.inr ⟨g, cap, cur, rfl, h1, h2, h3, h4, h5, rfl⟩) rfl (by simp) (fun c hc => by cases hc)).mono fun e w' h => ⟨h.1, ?_, h.2.2.mono fun k _ hk => by rw [hk]; rfl⟩
      exact (Own.sl ECp.ok h.2.1).lt_
  · obtain ⟨g, cap, rfl, h1, h2, h3, h4⟩ := h.form h0
    have hS' := hS g rfl
    refine (own_any w b g cap _ l (Own.more ECp.ok h fun k _ hk => by show k ≠ g; intro e; subst e; exact hS' hk) rfl hl hf).mono fun e w' h => ⟨h.1, ?_, h.2.2.mono fun k _ hk => by rw [hk]; rfl⟩
    exact (Own.sl ECp.ok h.2.1).lt_

end Go.Proofs.YtioplgfopillnaaDoor

/- The law's done: components one behind the other, each of which can be done. -/
set_option linter.unusedSimpArgs false
set_option linter.unusedVariables false
namespace Go.Proofs.YtioplgfopillnaaDoor
open Go.RowKit
set_option linter.unusedVariables false

/-- Do of c at v is done, and gives z, in every world behind w0. -/
def Does (w0 : World) (v : V) (c : Cp) (z : V) : Prop := ∀ (w : World) (S S2 : BS) (u t : Value), Ext w0 w → VAt w S u v → CAt w S2 t c → Calls Tryd.prog 22 #[u, t] w (Do6Is w z)
inductive DoesL (w0 : World) : V → List Cp → V → Prop
  | nil (v : V) : DoesL w0 v [] v
  | cons {v y z : V} {c : Cp} {cs : List Cp} : Does w0 v c y → DoesL w0 y cs z → DoesL w0 v (c :: cs) z
theorem DoesL.head {w0 : World} {v z : V} {c : Cp} {cs : List Cp} (h : DoesL w0 v (c :: cs) z) : ∃ y, Does w0 v c y ∧ DoesL w0 y cs z := by
  cases h with
  | cons h1 h2 => exact ⟨_, h1, h2⟩
theorem DoesL.end_ {w0 : World} {v z : V} (h : DoesL w0 v [] z) : z = v := by
  cases h; rfl
theorem Do6Is.out {w w' : World} {z : V} {e : Ending} (h : Do6Is w z e w') : ∃ u, e = .returned u ∧ Ext w w' ∧ OutE z 0 w.heap.size w'.heap.size u w' := by
  obtain ⟨u, rfl, ⟨A, a, B, b, rfl, h1, h2⟩, hE⟩ := h
  exact ⟨_, rfl, hE, A, a, B, b, rfl, _, _, rfl, h1.more EVal.ok fun k h1 h2 => ⟨h2, h1⟩, h2.more EField.ok fun k h1 h2 => ⟨h2, h1⟩⟩
def DoneIs (w : World) (S : BS) (z : V) (e : Ending) (w' : World) : Prop := ∃ A a B b, e = .returned (.tuple #[.agg #[U8 z.kind, .int .i64 z.n, .string z.s, .slice A z.l.length a, .slice B z.o.length b], .bool true]) ∧ VAt w' (fun q => S q ∨ w.heap.size ≤ q) (.agg #[U8 z.kind, .int .i64 z.n, .string z.s, .slice A z.l.length a, .slice B z.o.length b]) z ∧ Ext w w'
set_option maxRecDepth 20000 in
set_option maxHeartbeats 3200000 in
theorem done7_ok (w0 w : World) (hw : Ext w0 w) (S S2 : BS) (u lv : Value) (v z : V) (cs : List Cp) (hv : VAt w S u v) (hl : Sl ECp w S2 lv cs) (hd : DoesL w0 v cs z) :
    Calls Tryd.prog 19 #[u, lv] w (DoneIs w S z) := by
  obtain ⟨lx, ox, rfl, k1, k2⟩ := hv.cut
  obtain ⟨Bl, dl, rfl, _⟩ := k1.shape
  obtain ⟨Bo, do_, rfl, _⟩ := k2.shape
  have hl := hl.more (S' := fun k => k < w.heap.size) ECp.ok fun k h _ => h
  obtain ⟨A, ca, rfl, hlc, hcm⟩ := hl.shape
  unfold maxLen at hcm
  obtain ⟨W, hW⟩ : ∃ W, (w.alloc (.cells #[U8 v.kind, .int .i64 v.n, .string v.s, .slice Bl v.l.length dl, .slice Bo v.o.length do_] TVAL)).alloc (.cells #[.int .u8 0, .int .i64 0, .string ⟨#[]⟩, .slice none 0 0, .slice none 0 0] TVAL) = W := ⟨_, rfl⟩
  have hE : Ext w W := by rw [← hW]; exact ((Keep.refl _ _).alloc _).alloc _
  have hsz : W.heap.size = w.heap.size + 2 := by rw [← hW]; simp
  have hb : Blk W w.heap.size TVAL #[U8 v.kind, .int .i64 v.n, .string v.s, .slice Bl v.l.length dl, .slice Bo v.o.length do_] := by rw [← hW]; exact (Blk.new _ _ _).alloc _
  have hrb : Blk W (w.heap.size + 1) TVAL #[.int .u8 0, .int .i64 0, .string ⟨#[]⟩, .slice none 0 0, .slice none 0 0] := by
    have := Blk.new (w.alloc (.cells #[U8 v.kind, .int .i64 v.n, .string v.s, .slice Bl v.l.length dl, .slice Bo v.o.length do_] TVAL)) TVAL #[.int .u8 0, .int .i64 0, .string ⟨#[]⟩, .slice none 0 0, .slice none 0 0]
    rw [World.size_alloc, hW] at this
    exact this
  have HV := hid (show VAt W (fun q => q ≠ w.heap.size ∧ q ≠ w.heap.size + 1 ∧ (S q ∨ w.heap.size ≤ q)) (.agg #[U8 v.kind, .int .i64 v.n, .string v.s, .slice Bl v.l.length dl, .slice Bo v.o.length do_]) v from VAt.more ⟨_, _, rfl, k1.ext EVal.ok hE, k2.ext EField.ok hE⟩ fun k _ h => by have := h.2; exact ⟨by omega, by omega, .inl h.1⟩)
  have HL := hid ((hl.ext ECp.ok hE))
  have HE := hid hE
  have HSZ := hid hsz
  have HB := hid hb
  have HRB := hid hrb
  have HX := hid (hw.ext hE)
  have HW0 := hid hw.size
  have HD := hid hd
  obtain ⟨n, hn⟩ : ∃ n, cs.length = n := ⟨_, rfl⟩
  have HN := hid hn
  rw [hn] at HL hlc ⊢
  clear k1 k2 hE hsz hb hrb hw hd hl hn hv
  go_enter Tryd.func19, Tryd.ntmps19
  go_wp2_with fail
  go_loopw [6, 7, 8] (fun i _ _ wr => ∃ (j : Nat) (y : V) (lv ov : Value), i = .int .i64 j ∧ j ≤ n ∧ DoesL w0 y (cs.drop j) z ∧ Blk wr w.heap.size TVAL #[U8 y.kind, .int .i64 y.n, .string y.s, lv, ov] ∧
    VAt wr (fun q => q ≠ w.heap.size ∧ q ≠ w.heap.size + 1 ∧ (S q ∨ w.heap.size ≤ q)) (.agg #[U8 y.kind, .int .i64 y.n, .string y.s, lv, ov]) y ∧ Keep (· = w.heap.size) W wr) (fun i _ _ _ => n - (intOf i).toNat)
  case atStart => exact ⟨0, v, _, _, rfl, by omega, HD.out, HB.out, HV.out, Keep.refl _ _⟩
  case round =>
    obtain ⟨j, y, lv, ov, rfl, hj, hd, hb, hva, hkr⟩ := hrel
    obtain ⟨lv', ov', e, hxl, hxo⟩ := hva
    obtain ⟨e1, e2⟩ : lv = lv' ∧ ov = ov' := by simp at e; exact e
    subst e1 e2
    clear e
    obtain ⟨A2, c2, rfl, h2l, h2m⟩ := hxl.shape
    obtain ⟨A3, c3, rfl, h3l, h3m⟩ := hxo.shape
    have HY := hid (show VAt wr (fun q => q ≠ w.heap.size ∧ q ≠ w.heap.size + 1 ∧ (S q ∨ w.heap.size ≤ q)) (.agg #[U8 y.kind, .int .i64 y.n, .string y.s, .slice A2 y.l.length c2, .slice A3 y.o.length c3]) y from ⟨_, _, rfl, hxl, hxo⟩)
    have HDY := hid hd
    have HK := hid hkr
    have HBY := hid hb
    have hkz := hkr.size
    have hws := HSZ.out
    have HBR := hid (HRB.out.keep hkr (by omega))
    have HLr := hid (HL.out.keep ECp.ok hkr fun q hq e => by omega)
    have HX0 := hid (HX.out)
    obtain ⟨q0, q1, q2, q3, q4⟩ := blk5 hb
    clear hxl hxo hd hkr hb hws
    by_cases hlt : j < n
    · have hltX : (j : Int) < n := by omega
      have hj' : j < cs.length := by rw [HN.out]; exact hlt
      obtain ⟨bp, op, c0, rfl, _, _, ⟨pv, lc, oc, rfl, p1, p2, p3⟩, hcell⟩ := HLr.out.at_ ECp.ok hj'
      have HDD := hid (by have := HDY.out; rw [List.drop_eq_getElem_cons hj'] at this; exact this.head)
      generalize cs[j] = c at *
      obtain ⟨Ap, cp, rfl, _⟩ := p1.shape
      obtain ⟨Al, cl, rfl, _⟩ := p2.shape
      obtain ⟨Ao, co, rfl, _⟩ := p3.shape
      have HCC := hid (show CAt wr (fun k => k < w.heap.size) (.agg (cpCells c (.slice Ap c.path.length cp) (.slice Al c.v.l.length cl) (.slice Ao c.v.o.length co))) c from ⟨_, _, _, rfl, p1, p2, p3⟩)
      obtain ⟨z1, hdo, hrest⟩ := HDD.out
      have HDO := hid hdo
      have HRE := hid hrest
      have e12 : ECp.size = 12 := rfl
      have g0 := hcell 0 _ rfl
      have g1 := hcell 1 _ rfl
      have g2 := hcell 2 _ rfl
      have g3 := hcell 3 _ rfl
      have g4 := hcell 4 _ rfl
      have g5 := hcell 5 _ rfl
      have g6 := hcell 6 _ rfl
      have g7 := hcell 7 _ rfl
      have g8 := hcell 8 _ rfl
      have g9 := hcell 9 _ rfl
      have g10 := hcell 10 _ rfl
      have g11 := hcell 11 _ rfl
      simp only [e12, Nat.add_zero] at g0 g1 g2 g3 g4 g5 g6 g7 g8 g9 g10 g11
      have hwr : Ext w0 wr := HX.out.trans HK.out fun k hk e => by have := HW0.out; omega
      have HWR := hid hwr
      clear hcell p1 p2 p3 e12 hdo hrest hwr hj'
      go_wp2_with fail
      refine H.wp_region_frees [8] [1, 2] [0, 3, 4, 5, 6, 7, 8, 9] [10] [11]
        (H.specOf [(5, OutEQ wr.heap.size z1 0), (9, BoxQ wr.heap.size)])
        (fun w' => Ext wr w') ?_ (H.stableC_ext _) (by kernel_rfl) (by intro k hk; simp at hk; rcases hk with rfl | rfl <;> rfl) (by kernel_rfl) (Keep.drew (Keep.refl _ _)) ?_
      · exact H.stable_cons (fun n m v w w' h he => h.ext he) (H.stable_cons (fun n m v w w' h he => h.ext he) H.stable_nil)
      iterate 2
        (try simp only [Act.put, List.setIfInBounds_toArray, List.set_cons_zero, List.set_cons_succ])
        refine H.pure_run rfl rfl ?_
        apply Exists.intro
        refine ⟨fun w' => ?_, ?_⟩
        · go_simp
          rfl
      refine H.pure_nil ?_
      iterate 3
        (try simp only [Act.put, List.setIfInBounds_toArray, List.set_cons_zero, List.set_cons_succ])
        refine H.growP_run rfl rfl rfl ?_
        apply Exists.intro
        refine ⟨fun w' hC hK => ?_, ?_⟩
        · have q0 := (hC.cell (lt_of_cell q0) id).trans q0
          have q1 := (hC.cell (lt_of_cell q1) id).trans q1
          have q2 := (hC.cell (lt_of_cell q2) id).trans q2
          have q3 := (hC.cell (lt_of_cell q3) id).trans q3
          have q4 := (hC.cell (lt_of_cell q4) id).trans q4
          have g0 := (hC.cell (lt_of_cell g0) id).trans g0
          have g1 := (hC.cell (lt_of_cell g1) id).trans g1
          have g2 := (hC.cell (lt_of_cell g2) id).trans g2
          have g3 := (hC.cell (lt_of_cell g3) id).trans g3
          have g4 := (hC.cell (lt_of_cell g4) id).trans g4
          have g5 := (hC.cell (lt_of_cell g5) id).trans g5
          have g6 := (hC.cell (lt_of_cell g6) id).trans g6
          have g7 := (hC.cell (lt_of_cell g7) id).trans g7
          have g8 := (hC.cell (lt_of_cell g8) id).trans g8
          have g9 := (hC.cell (lt_of_cell g9) id).trans g9
          have g10 := (hC.cell (lt_of_cell g10) id).trans g10
          have g11 := (hC.cell (lt_of_cell g11) id).trans g11
          go_simp
          rfl
      (try simp only [Act.put, List.setIfInBounds_toArray, List.set_cons_zero, List.set_cons_succ])
      refine H.growP_eff rfl rfl rfl (fun w' hC hK => ?_) (fun v5 nv5 mv5 hv5 => ?_)
      · have hcall := (HDO.out w' _ _ _ _ (HWR.out.ext hC) (HY.out.ext hC) (HCC.out.ext hC)).mono fun e w'' h => (by obtain ⟨u, h1, h2, h3⟩ := h.out; exact ⟨u, h1, h2, hC.size, h3⟩ : ∃ u, e = .returned u ∧ Ext w' w'' ∧ OutEQ wr.heap.size z1 0 w'.heap.size w''.heap.size u w'')
        unfold H.growAt
        go_simp
        exact H.grow_call hcall
      obtain ⟨_, _, _, Az1, cz1, Az2, cz2, rfl, _⟩ := hv5.head
      iterate 3
        (try simp only [Act.put, List.setIfInBounds_toArray, List.set_cons_zero, List.set_cons_succ])
        refine H.growP_run rfl rfl rfl ?_
        apply Exists.intro
        refine ⟨fun w' hC hK => ?_, ?_⟩
        · go_simp
          rfl
      (try simp only [Act.put, List.setIfInBounds_toArray, List.set_cons_zero, List.set_cons_succ])
      refine H.growP_eff rfl rfl rfl (fun w' hC hK => ?_) (fun v9 nv9 mv9 hv9 => ?_)
      · unfold H.growAt
        go_simp
        exact ⟨(Keep.refl _ _).alloc _, hC.size, rfl, by simp, Blk.new _ _ _⟩
      obtain ⟨_, _, hn, rfl, hnm, _⟩ := hv9.head
      refine H.growP_nil fun w7 hC hK => ?_
      have hbox : BoxQ wr.heap.size nv9 mv9 (.pointer (some ⟨nv9, 0, none⟩)) w7 := (hK.1 (9, _) List.mem_cons_self).1
      have houtq : OutEQ wr.heap.size z1 0 nv5 mv5 (.tuple #[.agg #[U8 z1.kind, .int .i64 z1.n, .string z1.s, .slice Az1 z1.l.length cz1, .slice Az2 z1.o.length cz2], .int .i64 0]) w7 := (hK.1 (5, _) (List.mem_cons_of_mem _ List.mem_cons_self)).1
      have hap : mv9 ≤ nv5 ∨ mv5 ≤ nv9 := hK.2 (9, _) List.mem_cons_self (5, _) (List.mem_cons_of_mem _ List.mem_cons_self) (by simp)
      have hout := houtq.2
      have hn5 : wr.heap.size ≤ nv5 := houtq.1
      obtain ⟨bq0, bq1, bq2, bq3, bq4⟩ := blk5 hbox.2.2.2
      have bf0 := hbox.2.2.2.frozen 0
      have bf1 := hbox.2.2.2.frozen 1
      have bf2 := hbox.2.2.2.frozen 2
      have bf3 := hbox.2.2.2.frozen 3
      have bf4 := hbox.2.2.2.frozen 4
      have HF := hid (OutE.fill hC hbox hout hap)
      clear hbox hout houtq hap hK hn hnm q0 q1 q2 q3 q4 g0 g1 g2 g3 g4 g5 g6 g7 g8 g9 g10 g11 hv5 hv9 hC
      change wpList _ _ _ (_ :: []) _ _
      (try simp only [Act.put, List.setIfInBounds_toArray, List.set_cons_zero, List.set_cons_succ])
      go_wp2_with fail
      refine H.Then.normal ?_
      iterate 1
        (try simp only [Act.put, List.setIfInBounds_toArray, List.set_cons_zero, List.set_cons_succ])
        refine H.pure_run rfl rfl ?_
        apply Exists.intro
        refine ⟨fun w' => ?_, ?_⟩
        · go_simp
          rfl
      refine H.pure_nil ?_
      refine NoPanic.normal ?_
      (try simp only [Act.put, List.setIfInBounds_toArray, List.set_cons_zero, List.set_cons_succ])
      obtain ⟨hE8, hB8, hV8⟩ := HF.out
      clear HF bq0 bq1 bq2 bq3 bq4 bf0 bf1 bf2 bf3 bf4
      change Exit.then _ _ Exit.normal _ (fillW w7 nv9 (U8 z1.kind) (.int .i64 z1.n) (.string z1.s) (.slice Az1 z1.l.length cz1) (.slice Az2 z1.o.length cz2))
      generalize fillW w7 nv9 (U8 z1.kind) (.int .i64 z1.n) (.string z1.s) (.slice Az1 z1.l.length cz1) (.slice Az2 z1.o.length cz2) = w8 at *
      have hws := HSZ.out
      have hby := HBY.out.keep hE8 id
      have hbr := HBR.out.keep hE8 id
      have HKr := hid (HK.out.trans hE8 fun q _ h => h.elim)
      have HV8 := hid hV8
      obtain ⟨q0, q1, q2, q3, q4⟩ := blk5 hby
      have f0 := hby.frozen 0
      have f1 := hby.frozen 1
      have f2 := hby.frozen 2
      have f3 := hby.frozen 3
      have f4 := hby.frozen 4
      obtain ⟨s0, s1, s2, s3, s4⟩ := blk5 hB8
      have hk := set5_keep w8 w.heap.size 0 (U8 z1.kind) (.int .i64 z1.n) (.string z1.s) (.slice Az1 z1.l.length cz1) (.slice Az2 z1.o.length cz2)
      have HR := hid (And.intro (show Blk (fillW w8 w.heap.size (U8 z1.kind) (.int .i64 z1.n) (.string z1.s) (.slice Az1 z1.l.length cz1) (.slice Az2 z1.o.length cz2)) w.heap.size TVAL #[U8 z1.kind, .int .i64 z1.n, .string z1.s, .slice Az1 z1.l.length cz1, .slice Az2 z1.o.length cz2] from set5_to hby rfl _ _ _ _ _)
        (And.intro (show VAt (fillW w8 w.heap.size (U8 z1.kind) (.int .i64 z1.n) (.string z1.s) (.slice Az1 z1.l.length cz1) (.slice Az2 z1.o.length cz2)) (fun q => q ≠ w.heap.size ∧ q ≠ w.heap.size + 1 ∧ (S q ∨ w.heap.size ≤ q)) (.agg #[U8 z1.kind, .int .i64 z1.n, .string z1.s, .slice Az1 z1.l.length cz1, .slice Az2 z1.o.length cz2]) z1 from (hV8.keep hk fun q hq e => by omega).more fun q _ hq => ⟨by omega, by omega, .inr (by omega)⟩)
          (show Keep (· = w.heap.size) W (fillW w8 w.heap.size (U8 z1.kind) (.int .i64 z1.n) (.string z1.s) (.slice Az1 z1.l.length cz1) (.slice Az2 z1.o.length cz2)) from HKr.out.trans hk fun q _ h => h)))
      clear hby hbr hk hE8 hB8 hV8
      go_wp2
      go_roundw
      case rel => exact ⟨j + 1, z1, _, _, by go_num, by omega, HRE.out, HR.out⟩
      case measure => simp [intOf]; omega
    · obtain rfl : j = n := by omega
      have hltX : ¬ (j : Int) < j := by omega
      have hws := HSZ.out
      have hzy : z = y := by
        have := HDY.out
        rw [List.drop_of_length_le (by rw [HN.out]; exact Nat.le_refl _)] at this
        exact this.end_
      have HZY := hid hzy
      clear hzy
      obtain ⟨r0, r1, r2, r3, r4⟩ := blk5 HBR.out
      have f0 := HBR.out.frozen 0
      have f1 := HBR.out.frozen 1
      have f2 := HBR.out.frozen 2
      have f3 := HBR.out.frozen 3
      have f4 := HBR.out.frozen 4
      have hk := set5_keep wr (w.heap.size + 1) 0 (U8 y.kind) (.int .i64 y.n) (.string y.s) (.slice A2 y.l.length c2) (.slice A3 y.o.length c3)
      have HT := hid (ret5 (HE.out.trans HK.out fun q hq e => by omega) (by omega) HBR.out (U8 y.kind) (.int .i64 y.n) (.string y.s) (.slice A2 y.l.length c2) (.slice A3 y.o.length c3))
      have HVF := hid (show VAt (fillW wr (w.heap.size + 1) (U8 y.kind) (.int .i64 y.n) (.string y.s) (.slice A2 y.l.length c2) (.slice A3 y.o.length c3)) (fun q => S q ∨ w.heap.size ≤ q) (.agg #[U8 y.kind, .int .i64 y.n, .string y.s, .slice A2 y.l.length c2, .slice A3 y.o.length c3]) y from (HY.out.keep hk fun q hq e => hq.2.1 e).more fun q _ hq => hq.2.2)
      clear hk
      go_wp2
      obtain ⟨hE5, t0, t1, t2, t3, t4⟩ := HT.out
      change bodyPost _ _ _ _ _ (fillW wr (w.heap.size + 1) (U8 y.kind) (.int .i64 y.n) (.string y.s) (.slice A2 y.l.length c2) (.slice A3 y.o.length c3))
      generalize fillW wr (w.heap.size + 1) (U8 y.kind) (.int .i64 y.n) (.string y.s) (.slice A2 y.l.length c2) (.slice A3 y.o.length c3) = w9 at *
      refine bodyPost_ret (v := .tuple #[.agg #[U8 y.kind, .int .i64 y.n, .string y.s, .slice A2 y.l.length c2, .slice A3 y.o.length c3], .bool true]) (by simp [results, Tryd.results19, go_sem, t0, t1, t2, t3, t4]) rfl ?_
      rw [HZY.out]
      exact ⟨_, _, _, _, rfl, HVF.out, hE5⟩
end Go.Proofs.YtioplgfopillnaaDoor
