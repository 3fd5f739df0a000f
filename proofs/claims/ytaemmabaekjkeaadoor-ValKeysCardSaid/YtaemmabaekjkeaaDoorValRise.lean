/- val.rising at any fields; what makes a value sound. -/
import Derived.Test.YtaemmabaekjkeaaDoorValPlain
set_option linter.unusedSimpArgs false
set_option linter.unusedVariables false
namespace Go.Proofs.YtaemmabaekjkeaaDoor
open Go.RowKit
set_option linter.unusedVariables false

/-- Keys rise, one by one. -/
def risesB : List F → Bool
  | [] => true
  | a :: r => (match r with | [] => true | b :: _ => keyLt a.key b.key) && risesB r
theorem risesB_iff : ∀ (o : List F), risesB o = true ↔ ∀ i (h : i + 1 < o.length), keyLt o[i].key o[i + 1].key = true
  | [] => by simp [risesB]
  | [a] => by simp [risesB]
  | a :: b :: r => by
    have ih := risesB_iff (b :: r)
    rw [risesB, Bool.and_eq_true, ih]
    constructor
    · rintro ⟨h1, h2⟩ i h
      cases i with
      | zero => exact h1
      | succ i => exact h2 i (by simpa using h)
    · intro h
      exact ⟨h 0 (by simp), fun i hi => h (i + 1) (by simpa using hi)⟩
/-- Of two keys: either the one is below the other, or not. -/
theorem le_cases (a b : ByteArray) : (keyLt b a = true ∧ Op.bytesLess a.toList b.toList = false ∧ (a.toList == b.toList) = false) ∨ (keyLt b a = false ∧ ((Op.bytesLess a.toList b.toList = true ∧ (a.toList == b.toList) = false) ∨ (a.toList = b.toList ∧ (a.toList == b.toList) = true))) := by
  cases h : keyLt b a with
  | true =>
    refine .inl ⟨rfl, ?_, ?_⟩
    · cases hc : Op.bytesLess a.toList b.toList with
      | false => rfl
      | true => exact absurd (less_trans (show Op.bytesLess b.toList a.toList = true from h) hc) (by rw [less_irrefl]; simp)
    · rw [beq_eq_false_iff_ne]
      intro e
      have h1 : Op.bytesLess b.toList a.toList = true := h
      rw [e, less_irrefl] at h1
      cases h1
  | false =>
    refine .inr ⟨rfl, ?_⟩
    by_cases e : a.toList = b.toList
    · exact .inr ⟨e, by simpa using e⟩
    · exact .inl ⟨less_total (show Op.bytesLess b.toList a.toList = false from h) (fun h => e h.symm), by simpa using e⟩

set_option maxHeartbeats 3200000 in
theorem rising_any (o : List F) (v : Value) (S : BS) (w : World) (h : Sl EField w S v o) :
    Calls Tryd.prog 29 #[v] w fun e w' => e = .returned (.bool (risesB o)) ∧ Ext w w' := by
  obtain ⟨A, c, rfl, hlc, hcm⟩ := h.shape
  unfold maxLen at hcm
  have HO := hid h
  generalize hn : o.length = n at *
  have HN := hid hn
  have HRB := hid (risesB_iff o)
  clear h hn
  go_enter Tryd.func29, Tryd.ntmps29
  go_wp2
  go_loopw [6, 3] (fun i _ wr => ∃ j : Nat, j ≤ n ∧ i = .int .i64 j ∧ (∀ i (h : i + 1 < o.length), i + 1 < j → keyLt o[i].key o[i + 1].key = true) ∧ Ext w wr) (fun i _ _ => n - (intOf i).toNat)
  case atStart => exact ⟨0, by omega, rfl, fun i _ h => by omega, Keep.refl _ _⟩
  case round =>
    obtain ⟨j, hj, rfl, hfl, hEj⟩ := hrel
    have HF := hid hfl
    have HEJ := hid hEj
    clear hfl
    by_cases hlt : j < n
    · have hjm : j < o.length := by rw [HN.out]; exact hlt
      by_cases hj0 : 0 < j
      · obtain ⟨i, hji⟩ : ∃ i, j = i + 1 := ⟨j - 1, by omega⟩
        obtain ⟨b1, o1, cs, rfl, _, _, hrd, hcell⟩ := (HO.out.ext EField.ok hEj).at_ EField.ok hjm
        obtain ⟨b2, o2, cs2, e2, _, _, hrd2, hcell2⟩ := (HO.out.ext EField.ok hEj).at_ EField.ok (k := i) (by omega)
        obtain ⟨rfl, rfl⟩ : b1 = b2 ∧ o1 = o2 := by simpa using e2
        have hnx : keyLt (o[i]'(by omega)).key o[j].key = true → ∀ k (h : k + 1 < o.length), k + 1 < j + 1 → keyLt o[k].key o[k + 1].key = true := fun hk k h hk2 => by
          subst hji
          rcases Nat.lt_or_ge k i with h1 | h1
          · exact HF.out k h (by omega)
          · obtain rfl : k = i := by omega
            exact hk
        have hstop : keyLt (o[i]'(by omega)).key o[j].key = false → risesB o = false := fun hk => by
          subst hji
          cases hr : risesB o with
          | false => rfl
          | true => have := HRB.out.1 hr i (by omega); rw [hk] at this; cases this
        generalize o[j] = y at *
        generalize o[i]'(by omega) = g at *
        obtain ⟨_, _, rfl, _, _, _⟩ := EField_cells hrd
        obtain ⟨_, _, rfl, _, _, _⟩ := EField_cells hrd2
        have ck := hcell 0 _ rfl
        have cp := hcell2 0 _ rfl
        have hz : EField.size = 6 := rfl
        simp only [hz, Nat.add_zero] at ck cp
        have hwj : IntKind.i64.wrap ((j : Int) - 1) = (i : Int) := by rw [IntKind.wrap_i64]; omega
        have hio : (i : Int) < n := by omega
        have hi0 : (0 : Int) ≤ i := by omega
        have hjX : (0 : Int) < (j : Int) := by omega
        clear hji
        have HNX := hid hnx
        have HST := hid hstop
        clear hcell hcell2 hrd hrd2 e2 hz hnx hstop HF
        rcases le_cases y.key g.key with ⟨hk, hb1, hb2⟩ | ⟨hk, ⟨hb1, hb2⟩ | ⟨hb0, hb2⟩⟩
        · have HG := hid (HNX.out hk)
          clear hk HNX HST
          go_wp2_with fail
          refine wp_region_grow (specOf []) (fun w' => Ext wr w') stable_nil (stableC_ext _) (by kernel_rfl) (by kernel_rfl) (Keep.drew (Keep.refl _ _)) ?_
          iterate 3
            (try simp only [Act.put, List.setIfInBounds_toArray, List.set_cons_zero, List.set_cons_succ])
            refine grow_run rfl rfl rfl ?_
            apply Exists.intro
            refine ⟨fun w' hC hK => ?_, ?_⟩
            · go_simp
              rfl
          iterate 13
            (try simp only [Act.put, List.setIfInBounds_toArray, List.set_cons_zero, List.set_cons_succ])
            refine grow_run rfl rfl rfl ?_
            apply Exists.intro
            refine ⟨fun w' hC hK => ?_, ?_⟩
            · have ck := (hC.cell (lt_of_cell ck) id).trans ck
              have cp := (hC.cell (lt_of_cell cp) id).trans cp
              go_simp
              rfl
          refine grow_nil fun w5 hC _ => ?_
          have HE5 := hid (HEJ.out.ext (show Ext wr w5 from hC))
          clear hC ck cp
          go_wp2
          go_roundw
          case rel => exact ⟨j + 1, by omega, by go_num, HG.out, HE5.out⟩
          case measure => simp [intOf]; omega
        · have HG := hid (HST.out hk)
          clear hk HNX HST
          go_wp2_with fail
          refine wp_region_grow (specOf []) (fun w' => Ext wr w') stable_nil (stableC_ext _) (by kernel_rfl) (by kernel_rfl) (Keep.drew (Keep.refl _ _)) ?_
          iterate 3
            (try simp only [Act.put, List.setIfInBounds_toArray, List.set_cons_zero, List.set_cons_succ])
            refine grow_run rfl rfl rfl ?_
            apply Exists.intro
            refine ⟨fun w' hC hK => ?_, ?_⟩
            · go_simp
              rfl
          iterate 13
            (try simp only [Act.put, List.setIfInBounds_toArray, List.set_cons_zero, List.set_cons_succ])
            refine grow_run rfl rfl rfl ?_
            apply Exists.intro
            refine ⟨fun w' hC hK => ?_, ?_⟩
            · have ck := (hC.cell (lt_of_cell ck) id).trans ck
              have cp := (hC.cell (lt_of_cell cp) id).trans cp
              go_simp
              rfl
          refine grow_nil fun w5 hC _ => ?_
          have HE5 := hid (HEJ.out.ext (show Ext wr w5 from hC))
          clear hC ck cp
          go_wp2
          go_ret
          exact ⟨by rw [HG.out]; first | rfl | simp, HE5.out⟩
        · have HG := hid (HST.out hk)
          clear hk HNX HST
          go_wp2_with fail
          refine wp_region_grow (specOf []) (fun w' => Ext wr w') stable_nil (stableC_ext _) (by kernel_rfl) (by kernel_rfl) (Keep.drew (Keep.refl _ _)) ?_
          iterate 3
            (try simp only [Act.put, List.setIfInBounds_toArray, List.set_cons_zero, List.set_cons_succ])
            refine grow_run rfl rfl rfl ?_
            apply Exists.intro
            refine ⟨fun w' hC hK => ?_, ?_⟩
            · go_simp
              rfl
          iterate 13
            (try simp only [Act.put, List.setIfInBounds_toArray, List.set_cons_zero, List.set_cons_succ])
            refine grow_run rfl rfl rfl ?_
            apply Exists.intro
            refine ⟨fun w' hC hK => ?_, ?_⟩
            · have ck := (hC.cell (lt_of_cell ck) id).trans ck
              have cp := (hC.cell (lt_of_cell cp) id).trans cp
              go_simp
              rfl
          refine grow_nil fun w5 hC _ => ?_
          have HE5 := hid (HEJ.out.ext (show Ext wr w5 from hC))
          clear hC ck cp
          go_wp2
          go_ret
          exact ⟨by rw [HG.out]; first | rfl | simp, HE5.out⟩
      · obtain rfl : j = 0 := by omega
        clear hj0
        go_wp2_with fail
        refine wp_region_grow (specOf []) (fun w' => Ext wr w') stable_nil (stableC_ext _) (by kernel_rfl) (by kernel_rfl) (Keep.drew (Keep.refl _ _)) ?_
        iterate 3
          (try simp only [Act.put, List.setIfInBounds_toArray, List.set_cons_zero, List.set_cons_succ])
          refine grow_run rfl rfl rfl ?_
          apply Exists.intro
          refine ⟨fun w' hC hK => ?_, ?_⟩
          · go_simp
            rfl
        iterate 12
          (try simp only [Act.put, List.setIfInBounds_toArray, List.set_cons_zero, List.set_cons_succ])
          with_reducible refine grow_skip ?_ ?_ ?_
          · rfl
          · rfl
        iterate 1
          (try simp only [Act.put, List.setIfInBounds_toArray, List.set_cons_zero, List.set_cons_succ])
          refine grow_run rfl rfl rfl ?_
          apply Exists.intro
          refine ⟨fun w' hC hK => ?_, ?_⟩
          · go_simp
            rfl
        refine grow_nil fun w5 hC _ => ?_
        have HE5 := hid (HEJ.out.ext (show Ext wr w5 from hC))
        clear hC
        go_wp2
        go_roundw
        case rel => exact ⟨1, by omega, by go_num, fun k h hk => by omega, HE5.out⟩
        case measure => simp [intOf]; omega
    · obtain rfl : j = n := by omega
      have HR := hid (show risesB o = true from HRB.out.2 fun i h => HF.out i (by have := HN.out; omega) (by have := HN.out; omega))
      clear HF
      go_wp2
      go_ret
      exact ⟨by rw [HR.out]; rfl, HEJ.out⟩

mutual
/-- A value is one. -/
def V.snd : V → Bool
  | .mk k n s l o => plainB (.mk k n s l o) && risesB o && V.snds l && F.snds o
def V.snds : List V → Bool
  | [] => true
  | v :: vs => v.snd && V.snds vs
def F.snd : F → Bool
  | .mk k v => Lib.validD k.data.toList && v.snd
def F.snds : List F → Bool
  | [] => true
  | f :: fs => f.snd && F.snds fs
end
theorem V.snd_eq (v : V) : v.snd = (plainB v && risesB v.o && V.snds v.l && F.snds v.o) := by cases v; rw [V.snd]; rfl
theorem F.snd_eq (f : F) : f.snd = (Lib.validD f.key.data.toList && f.v.snd) := by cases f; rw [F.snd]; rfl
theorem V.snds_all : ∀ l : List V, V.snds l = l.all V.snd
  | [] => by simp [V.snds]
  | v :: vs => by rw [V.snds, V.snds_all vs]; rfl
theorem F.snds_all : ∀ l : List F, F.snds l = l.all F.snd
  | [] => by simp [F.snds]
  | v :: vs => by rw [F.snds, F.snds_all vs]; rfl
end Go.Proofs.YtaemmabaekjkeaaDoor
