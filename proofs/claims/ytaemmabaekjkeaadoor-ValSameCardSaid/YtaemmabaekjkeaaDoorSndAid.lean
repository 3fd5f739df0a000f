/- Values that are sound by their making, are one. No walk. -/
import Derived.Test.YtaemmabaekjkeaaDoorValSound
import Derived.Test.YtaemmabaekjkeaaDoorRefSound
set_option linter.unusedSimpArgs false
set_option linter.unusedVariables false
namespace Go.Proofs.YtaemmabaekjkeaaDoor
open Go.RowKit
theorem rise_risesB {o : List F} (h : Rise o) : risesB o = true := (risesB_iff o).2 fun _ hi => rise_at h hi
theorem kind_plain {k : UInt8} {n : Int} {s : ByteArray} {l : List V} {o : List F} (h : KindOk k n s l o) : plainB (.mk k n s l o) = true := by
  rcases h with ⟨rfl, rfl, rfl, rfl, rfl⟩ | ⟨rfl, hn, rfl, rfl, rfl⟩ | ⟨rfl, rfl, rfl, rfl⟩ | ⟨rfl, rfl, hs, rfl, rfl⟩ | ⟨rfl, rfl, rfl, rfl⟩ | ⟨rfl, rfl, rfl, rfl⟩
  · simp [plainB, V.kind, V.n, V.s, V.l, V.o, ByteArray.toList_eq]
  · rcases hn with rfl | rfl <;> simp [plainB, V.kind, V.n, V.s, V.l, V.o, ByteArray.toList_eq]
  · simp [plainB, V.kind, V.s, V.l, V.o, ByteArray.toList_eq]
  · have := valid_asc hs
    simp [plainB, V.kind, V.n, V.s, V.l, V.o, this]
  · simp [plainB, V.kind, V.n, V.s, V.o, ByteArray.toList_eq]
  · simp [plainB, V.kind, V.n, V.s, V.l, ByteArray.toList_eq]
mutual
theorem SV.snd : ∀ (v : V), SV v → v.snd = true
  | .mk k n s l o, h => by
    rw [SV] at h
    rw [V.snd, kind_plain h.1, rise_risesB h.2.2.2, SVs.snd l h.2.1, SFs.snd o h.2.2.1]; rfl
theorem SVs.snd : ∀ (l : List V), SVs l → V.snds l = true
  | [], _ => by rw [V.snds]
  | v :: vs, h => by rw [SVs] at h; rw [V.snds, SV.snd v h.1, SVs.snd vs h.2]; rfl
theorem SF.snd : ∀ (f : F), SF f → F.snd f = true
  | .mk k v, h => by rw [SF] at h; rw [F.snd, valid_asc h.1, SV.snd v h.2]; rfl
theorem SFs.snd : ∀ (l : List F), SFs l → F.snds l = true
  | [], _ => by rw [F.snds]
  | v :: vs, h => by rw [SFs] at h; rw [F.snds, SF.snd v h.1, SFs.snd vs h.2]; rfl
end
mutual
theorem VStr.mono {R R' : Nat} (hR : R ≤ R') : ∀ (v : V), VStr R v → VStr R' v
  | .mk k n s l o, h => by
    rw [VStr] at h ⊢
    exact ⟨Nat.le_trans h.1 hR, VStrs.mono hR l h.2.1, FStrs.mono hR o h.2.2⟩
theorem VStrs.mono {R R' : Nat} (hR : R ≤ R') : ∀ (l : List V), VStrs R l → VStrs R' l
  | [], _ => by rw [VStrs]; trivial
  | v :: vs, h => by rw [VStrs] at h ⊢; exact ⟨VStr.mono hR v h.1, VStrs.mono hR vs h.2⟩
theorem FStr.mono {R R' : Nat} (hR : R ≤ R') : ∀ (f : F), FStr R f → FStr R' f
  | .mk k v, h => by rw [FStr] at h ⊢; exact ⟨Nat.le_trans h.1 hR, VStr.mono hR v h.2⟩
theorem FStrs.mono {R R' : Nat} (hR : R ≤ R') : ∀ (l : List F), FStrs R l → FStrs R' l
  | [], _ => by rw [FStrs]; trivial
  | v :: vs, h => by rw [FStrs] at h ⊢; exact ⟨FStr.mono hR v h.1, FStrs.mono hR vs h.2⟩
end
theorem SV.big {v : V} (h : SV v) : VStr BigR v := VStr.mono (by unfold BigR; decide) v (SV.str v h)
end Go.Proofs.YtaemmabaekjkeaaDoor
