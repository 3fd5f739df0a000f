/- ValCopy, LawKnown1, SnapR, SnapS, LawOne, LawRaw: laid together. -/
import Derived.Test.YtihaliffcobacaaGreatDoorSbB25
import Derived.Test.YtihaliffcobacaaGreatDoorSbB4
import Derived.Test.YtihaliffcobacaaGreatDoorSbB5
import Derived.Test.YtihaliffcobacaaGreatDoorSbB12
import Derived.Test.YtihaliffcobacaaGreatDoorSbB8
import Derived.Test.YtihaliffcobacaaGreatDoorSbB6
import Derived.Test.YtihaliffcobacaaGreatDoorSbB2
import Derived.Test.YtihaliffcobacaaGreatDoorSbB14
import Derived.Test.YtihaliffcobacaaGreatDoorSbB24
import Derived.Test.YtihaliffcobacaaGreatDoorSbB7
set_option linter.unusedSimpArgs false
set_option linter.unusedVariables false
set_option maxHeartbeats 25600000
set_option maxRecDepth 20000
namespace Go.Proofs.YtihaliffcobacaaGreatDoor
open Go.RowKit
def OwnShape {α : Type} (E : El α) (w : World) (base : Nat) (T : TypeId) (S : BS) (v : Value) (xs : List α) : Prop := ∃ A c, v = .slice A xs.length c ∧ Own E w base T S v xs
theorem OwnShape.ext {α : Type} {E : El α} (hE : E.Ok) {w w' : World} {base : Nat} {T : TypeId} {S : BS} {v : Value} {xs : List α} (h : OwnShape E w base T S v xs) (he : Ext w w') : OwnShape E w' base T S v xs := by
 obtain ⟨A, c, e, h⟩ := h; exact ⟨A, c, e, h.ext hE he⟩
def CopyIs (w : World) (v : V) (e : Ending) (w' : World) : Prop := ∃ lv ov, e = .returned (.agg #[U8 v.kind, .int .i64 v.n, .string v.s, lv, ov]) ∧ Own EVal w' w.heap.size TVAL (fun q => w.heap.size ≤ q ∧ lv.ownBlock ≠ some q) lv v.l ∧
 Own EField w' w.heap.size TFIELD (fun q => w.heap.size ≤ q ∧ ov.ownBlock ≠ some q) ov v.o ∧ Ext w w'
theorem CopyIs.at_ {w : World} {v : V} {e : Ending} {w' : World} (h : CopyIs w v e w') : ∃ u', e = .returned u' ∧ VAt w' (fun k => w.heap.size ≤ k) u' v ∧ Ext w w' := by
 obtain ⟨lv, ov, h1, h2, h3, h4⟩ := h
 exact ⟨_, h1, ⟨lv, ov, rfl, (h2.sl EVal.ok).more EVal.ok fun q _ h => h.elim (fun h => h.1) fun h => (h2.lt h).1, (h3.sl EField.ok).more EField.ok fun q _ h => h.elim (fun h => h.1) fun h => (h3.lt h).1⟩, h4⟩
theorem rise_risesB {o : List F} (h : Rise o) : risesB o = true := (risesB_iff o).2 fun _ hi => rise_at h hi
theorem kind_plain {k : UInt8} {n : Int} {s : ByteArray} {l : List V} {o : List F} (h : KindOk k n s l o) : plainB (.mk k n s l o) = true := by
 rcases h with ⟨rfl, rfl, rfl, rfl, rfl⟩ | ⟨rfl, hn, rfl, rfl, rfl⟩ | ⟨rfl, rfl, rfl, rfl⟩ | ⟨rfl, rfl, hs, rfl, rfl⟩ | ⟨rfl, rfl, rfl, rfl⟩ | ⟨rfl, rfl, rfl, rfl⟩
 ·simp [plainB, V.kind, V.n, V.s, V.l, V.o, ByteArray.toList_eq]
 ·rcases hn with rfl | rfl <;> simp [plainB, V.kind, V.n, V.s, V.l, V.o, ByteArray.toList_eq]
 ·simp [plainB, V.kind, V.s, V.l, V.o, ByteArray.toList_eq]
 ·have := valid_asc hs
  simp [plainB, V.kind, V.n, V.s, V.l, V.o, this]
 ·simp [plainB, V.kind, V.n, V.s, V.o, ByteArray.toList_eq]
 ·simp [plainB, V.kind, V.n, V.s, V.l, ByteArray.toList_eq]
mutual
theorem SV.snd : ∀ (v : V), SV v → v.snd = true
 | .mk k n s l o, h => by
  rw [SV] at h
  rw [V.snd, kind_plain h.1, rise_risesB h.2.2.2, SVs.snd l h.2.1, SFs.snd o h.2.2.1]; rfl
theorem SVs.snd : ∀ (l : List V), SVs l → V.snds l = true
 | [], _ => by rw [V.snds]
 | v :: vs, h => by rw [SVs] at h; rw [V.snds, SV.snd v h.1, SVs.snd vs h.2]; rfl
theorem SF.snd : ∀ (f : F), SF f → F.snd f = true
 | .mk k v, h => by rw [SF] at h; rw [F.snd, valid_asc h.1, SV.snd v h.2]; rfl
theorem SFs.snd : ∀ (l : List F), SFs l → F.snds l = true
 | [], _ => by rw [F.snds]
 | v :: vs, h => by rw [SFs] at h; rw [F.snds, SF.snd v h.1, SFs.snd vs h.2]; rfl
end
mutual
theorem VStr.mono {R R' : Nat} (hR : R ≤ R') : ∀ (v : V), VStr R v → VStr R' v
 | .mk k n s l o, h => by
  rw [VStr] at h ⊢
  exact ⟨Nat.le_trans h.1 hR, VStrs.mono hR l h.2.1, FStrs.mono hR o h.2.2⟩
theorem VStrs.mono {R R' : Nat} (hR : R ≤ R') : ∀ (l : List V), VStrs R l → VStrs R' l
 | [], _ => by rw [VStrs]; trivial
 | v :: vs, h => by rw [VStrs] at h ⊢; exact ⟨VStr.mono hR v h.1, VStrs.mono hR vs h.2⟩
theorem FStr.mono {R R' : Nat} (hR : R ≤ R') : ∀ (f : F), FStr R f → FStr R' f
 | .mk k v, h => by rw [FStr] at h ⊢; exact ⟨Nat.le_trans h.1 hR, VStr.mono hR v h.2⟩
theorem FStrs.mono {R R' : Nat} (hR : R ≤ R') : ∀ (l : List F), FStrs R l → FStrs R' l
 | [], _ => by rw [FStrs]; trivial
 | v :: vs, h => by rw [FStrs] at h ⊢; exact ⟨FStr.mono hR v h.1, FStrs.mono hR vs h.2⟩
end
theorem SV.big {v : V} (h : SV v) : VStr BigR v := VStr.mono (by unfold BigR; decide) v (SV.str v h)
mutual
theorem weight_size {R : Nat} : ∀ v : V, VStr R v → v.weight + R ≤ v.size * (1 + 2 * R)
 | .mk k n s l o, h => by
  rw [VStr] at h
  have h1 := weights_size l h.2.1
  have h2 := fweights_size o h.2.2
  rw [V.weight, V.size]
  have h0 := h.1
  rw [Nat.add_mul, Nat.add_mul]
  omega
theorem weights_size {R : Nat} : ∀ l : List V, VStrs R l → V.weights l ≤ V.sizes l * (1 + 2 * R)
 | [], _ => by simp [V.weights]
 | v :: l, h => by
  rw [VStrs] at h
  have h1 := weight_size v h.1
  have h2 := weights_size l h.2
  rw [V.weights, V.sizes, Nat.add_mul]; omega
theorem fweights_size {R : Nat} : ∀ l : List F, FStrs R l → F.weights l ≤ F.sizes l * (1 + 2 * R)
 | [], _ => by simp [F.weights]
 | .mk k v :: l, h => by
  rw [FStrs, FStr] at h
  have h1 := weight_size v h.1.2
  have h2 := fweights_size l h.2
  have h0 := h.1.1
  rw [F.weights, F.sizes, F.weight, F.size, Nat.add_mul]; omega
end
theorem zV_wide : Wide zV := ⟨by unfold zV; rw [V.size, V.sizes, F.sizes]; decide, by unfold zV; rw [VStr]; exact ⟨by decide, by rw [VStrs]; trivial, by rw [FStrs]; trivial⟩, by unfold zV; simp [V.weight, V.weights, F.weights, ByteArray.size]⟩
theorem zV_n64 : NAll N64 zV := by unfold zV; rw [NAll, NAlls, NFAlls]; exact ⟨⟨by decide, by decide⟩, trivial, trivial⟩
theorem built_good {v : V} (h : SVd 0 v) (hz : v.size ≤ 241) : Wide v ∧ lightB v = true ∧ (encV v).length ≤ 22413 := by
 obtain ⟨h1, h2, h3⟩ := h
 have hw := weight_size v h3
 have he := enc_short v h3
 have hm : v.size * (1 + 2 * 40) ≤ 241 * (1 + 2 * 40) := Nat.mul_le_mul_right _ hz
 have hm2 : v.size * (13 + 2 * 40) ≤ 241 * (13 + 2 * 40) := Nat.mul_le_mul_right _ hz
 refine ⟨⟨by omega, h1.big, by omega⟩, ?_, by omega⟩
 unfold lightB
 rw [SV.snd v h1, decide_eq_true (show v.deep ≤ 16 by omega), decide_eq_true (show v.weight ≤ 20000 by omega)]
 rfl
theorem sh_wide {r : Rs} {s : Sh} (h : ShOf r s) : Wide s.v := by
 obtain ⟨n, th, v⟩ := s
 obtain ⟨hn, hth, hz, hv⟩ := h
 simp only at hn hth hz hv ⊢
 cases hx : r.there with
 | false => rw [hz hx]; exact zV_wide
 | true => obtain ⟨hs, hzz, _⟩ := hv hx; exact (built_good hs hzz).1
theorem one_last {nm : ByteArray} {ls : List (List UInt8)} (h : ls ≠ []) : oneF nm ls = [⟨byt (fileT nm), rowsL ls, (rowsL ls).length⟩] := by unfold oneF; rw [if_neg h]
end Go.Proofs.YtihaliffcobacaaGreatDoor
