/- SndAid, LawHeavy1, LawKnown1 in one. -/
import Derived.Test.YtaemmabaekjkeaaDoorValSound
import Derived.Test.YtaemmabaekjkeaaDoorRefSound
import Derived.Test.YtaemmabaekjkeaaDoorPathA
import Derived.Test.YtaemmabaekjkeaaDoorToks
import Derived.Test.YtaemmabaekjkeaaDoorValSame
import Derived.Test.YtaemmabaekjkeaaDoorValDeep
import Derived.Test.YtaemmabaekjkeaaDoorValCopy
import Derived.Test.YtaemmabaekjkeaaDoorLawOneA
set_option linter.unusedSimpArgs false
set_option linter.unusedVariables false
/- Values that are sound by their making, are one. No walk. -/
namespace Go.Proofs.YtaemmabaekjkeaaDoor
open Go.RowKit
theorem rise_risesB {o : List F} (h : Rise o) : risesB o = true := (risesB_iff o).2 fun _ hi => rise_at h hi
theorem kind_plain {k : UInt8} {n : Int} {s : ByteArray} {l : List V} {o : List F} (h : KindOk k n s l o) : plainB (.mk k n s l o) = true := by
  rcases h with ⟨rfl, rfl, rfl, rfl, rfl⟩ | ⟨rfl, hn, rfl, rfl, rfl⟩ | ⟨rfl, rfl, rfl, rfl⟩ | ⟨rfl, rfl, hs, rfl, rfl⟩ | ⟨rfl, rfl, rfl, rfl⟩ | ⟨rfl, rfl, rfl, rfl⟩
  · simp [plainB, V.kind, V.n, V.s, V.l, V.o, ByteArray.toList_eq]
  · rcases hn with rfl | rfl <;> simp [plainB, V.kind, V.n, V.s, V.l, V.o, ByteArray.toList_eq]
  · simp [plainB, V.kind, V.s, V.l, V.o, ByteArray.toList_eq]
  · have := valid_asc hs
    simp [plainB, V.kind, V.n, V.s, V.l, V.o, this]
  · simp [plainB, V.kind, V.n, V.s, V.o, ByteArray.toList_eq]
  · simp [plainB, V.kind, V.n, V.s, V.l, ByteArray.toList_eq]
mutual
theorem SV.snd : ∀ (v : V), SV v → v.snd = true
  | .mk k n s l o, h => by
    rw [SV] at h
    rw [V.snd, kind_plain h.1, rise_risesB h.2.2.2, SVs.snd l h.2.1, SFs.snd o h.2.2.1]; rfl
theorem SVs.snd : ∀ (l : List V), SVs l → V.snds l = true
  | [], _ => by rw [V.snds]
  | v :: vs, h => by rw [SVs] at h; rw [V.snds, SV.snd v h.1, SVs.snd vs h.2]; rfl
theorem SF.snd : ∀ (f : F), SF f → F.snd f = true
  | .mk k v, h => by rw [SF] at h; rw [F.snd, valid_asc h.1, SV.snd v h.2]; rfl
theorem SFs.snd : ∀ (l : List F), SFs l → F.snds l = true
  | [], _ => by rw [F.snds]
  | v :: vs, h => by rw [SFs] at h; rw [F.snds, SF.snd v h.1, SFs.snd vs h.2]; rfl
end
mutual
theorem VStr.mono {R R' : Nat} (hR : R ≤ R') : ∀ (v : V), VStr R v → VStr R' v
  | .mk k n s l o, h => by
    rw [VStr] at h ⊢
    exact ⟨Nat.le_trans h.1 hR, VStrs.mono hR l h.2.1, FStrs.mono hR o h.2.2⟩
theorem VStrs.mono {R R' : Nat} (hR : R ≤ R') : ∀ (l : List V), VStrs R l → VStrs R' l
  | [], _ => by rw [VStrs]; trivial
  | v :: vs, h => by rw [VStrs] at h ⊢; exact ⟨VStr.mono hR v h.1, VStrs.mono hR vs h.2⟩
theorem FStr.mono {R R' : Nat} (hR : R ≤ R') : ∀ (f : F), FStr R f → FStr R' f
  | .mk k v, h => by rw [FStr] at h ⊢; exact ⟨Nat.le_trans h.1 hR, VStr.mono hR v h.2⟩
theorem FStrs.mono {R R' : Nat} (hR : R ≤ R') : ∀ (l : List F), FStrs R l → FStrs R' l
  | [], _ => by rw [FStrs]; trivial
  | v :: vs, h => by rw [FStrs] at h ⊢; exact ⟨FStr.mono hR v h.1, FStrs.mono hR vs h.2⟩
end
theorem SV.big {v : V} (h : SV v) : VStr BigR v := VStr.mono (by unfold BigR; decide) v (SV.str v h)
end Go.Proofs.YtaemmabaekjkeaaDoor

/- The law's 'heavy' of chapter 01. -/
namespace Go.Proofs.YtaemmabaekjkeaaDoor
open Go.RowKit
set_option linter.unusedVariables false

def Heavy1Is (n : Nat) (w : World) (e : Ending) (w' : World) : Prop := ∃ b : Bool, e = .returned (.bool b) ∧ (b = false → n ≤ 200) ∧ Ext w w'
set_option maxHeartbeats 3200000 in
theorem heavy1_ok (w : World) (S : BS) (v : Value) (ts : List Tk) (h : Sl ETok w S v ts) :
    Calls Tryd.prog 9 #[v] w (Heavy1Is ts.length w) := by
  obtain ⟨A, c, rfl, hlc, hcm⟩ := h.shape
  unfold maxLen at hcm
  have HA := hid h
  generalize hn : ts.length = n at *
  have HN := hid hn
  clear h hn
  go_enter Tryd.func9, Tryd.ntmps9
  go_wp2
  go_loop [3, 4] (fun y i => ∃ (z : Int) (j : Nat), y = .int .i64 z ∧ j ≤ n ∧ i = .int .i64 j) (fun _ i => n - (intOf i).toNat)
  case atStart => exact ⟨0, 0, rfl, by omega, rfl⟩
  case round =>
    obtain ⟨z, j, rfl, hj, rfl⟩ := hrel
    by_cases hlt : j < n
    · obtain ⟨b1, o1, c0, rfl, _, _, hrd, hcell⟩ := HA.out.at_ ETok.ok (k := j) (by rw [HN.out]; exact hlt)
      generalize ts[j]'(by rw [HN.out]; exact hlt) = t at *
      obtain rfl : c0 = [U8 t.kind, .int .i64 t.n, .string t.s, U8 t.many] := hrd
      have e2 := hcell 2 _ rfl
      have hz : ETok.size = 4 := rfl
      simp only [hz] at e2
      clear hcell hz
      go_wp2
      go_round
      case rel => exact ⟨_, j + 1, rfl, by omega, by go_num⟩
      case measure => simp [intOf]; omega
    · obtain rfl : j = n := by omega
      by_cases g1 : 200 < j
      · go_wp2
        go_ret
        exact ⟨true, rfl, fun h => by simp at h, Keep.refl _ _⟩
      · by_cases g2 : 3000 < z
        · have g2X : decide ((3000 : Int) < z) = true := by simpa using g2
          clear g2
          go_wp2
          go_ret
          exact ⟨true, by first | rfl | simp, fun h => by simp at h, Keep.refl _ _⟩
        · have g2X : decide ((3000 : Int) < z) = false := by simpa using g2
          have HG := hid (show j ≤ 200 by omega)
          clear g2
          go_wp2
          go_ret
          exact ⟨false, by first | rfl | (simp; omega), fun _ => HG.out, Keep.refl _ _⟩
end Go.Proofs.YtaemmabaekjkeaaDoor

/- The law's example of chapter 01. -/
namespace Go.Proofs.YtaemmabaekjkeaaDoor
open Go.RowKit
set_option linter.unusedVariables false

theorem flat_at' (w : World) (S : BS) (k : UInt8) (n : Int) (s : ByteArray) : rdV w S (.mk k n s [] []) [U8 k, .int .i64 n, .string s, .slice none 0 0, .slice none 0 0] := rdV_iff.2 ⟨_, _, rfl, Sl.nil _ _, Sl.nil _ _⟩
abbrev kA : V := .mk 2 1 ⟨#[]⟩ [] []
abbrev kB : V := .mk 3 0 ⟨#[97, 98]⟩ [] []
abbrev kL : V := .mk 4 0 ⟨#[]⟩ [kA, kB] []
abbrev kZ : V := .mk 0 0 ⟨#[]⟩ [] []
abbrev kO : V := .mk 5 0 ⟨#[]⟩ [] [.mk ⟨#[98]⟩ kZ]
abbrev kN : V := .mk 0 1 ⟨#[]⟩ [] []
theorem kL_sv : SV kL := by
  rw [SV]
  refine ⟨.inr (.inr (.inr (.inr (.inl ⟨rfl, rfl, rfl, rfl⟩)))), ?_, by rw [SFs]; trivial, trivial⟩
  rw [SVs, SVs, SVs]
  refine ⟨?_, ?_, trivial⟩
  · exact flat_sv (.inr (.inr (.inl ⟨rfl, rfl, rfl, rfl⟩)))
  · exact flat_sv (.inr (.inr (.inr (.inl ⟨rfl, rfl, ⟨fun c hc => by simp at hc; rcases hc with rfl | rfl <;> decide, by decide⟩, rfl, rfl⟩))))
theorem kN_snd : kN.snd = false := by rw [V.snd]; simp [plainB, V.kind, V.n]
theorem kN_str : VStr BigR kN := by rw [VStr]; exact ⟨Nat.zero_le _, by rw [VStrs]; trivial, by rw [FStrs]; trivial⟩
theorem kO_field : fieldL kO.o ⟨#[98]⟩ = 0 ∧ fieldIs kO.o ⟨#[98]⟩ = true := by
  have h : fieldL kO.o ⟨#[98]⟩ = 0 := fieldL_at (by simp [V.o]) (fun i hi h => by omega) (fun h => less_irrefl _)
  exact ⟨h, by rw [fieldIs_some (by simp [V.o]) h]; simp [V.o, F.key]⟩
theorem kL_weight : kL.weight = 5 := by simp [V.weight, V.weights, F.weights, ByteArray.size]
theorem kL_deep : kL.deep = 1 := by simp [V.deep, V.deeps, F.deeps]
theorem kL_size : kL.size ≤ 1000000 := by simp [V.size, V.sizes, F.sizes]
abbrev cA : List Value := [.int .u8 2, .int .i64 1, .string ⟨#[]⟩, .slice none 0 0, .slice none 0 0]
abbrev cB : List Value := [.int .u8 3, .int .i64 0, .string ⟨#[97, 98]⟩, .slice none 0 0, .slice none 0 0]
abbrev cZ : List Value := [.int .u8 0, .int .i64 0, .string ⟨#[]⟩, .slice none 0 0, .slice none 0 0]
theorem kL_at (w : World) (b1 : Nat) (h1 : Blk w b1 TVAL #[.int .u8 2, .int .i64 1, .string ⟨#[]⟩, .slice none 0 0, .slice none 0 0, .int .u8 3, .int .i64 0, .string ⟨#[97, 98]⟩, .slice none 0 0, .slice none 0 0]) :
    VAt w (fun _ => True) (.agg #[.int .u8 4, .int .i64 0, .string ⟨#[]⟩, .slice (some ⟨b1, 0, none⟩) 2 2, .slice none 0 0]) kL := by
  have hA : rdV w (fun _ => True) kA cA := (flat_at' w _ 2 1 ⟨#[]⟩)
  have hB : rdV w (fun _ => True) kB cB := (flat_at' w _ 3 0 ⟨#[97, 98]⟩)
  have hl : Sl EVal w (fun _ => True) (.slice (some ⟨b1, 0, none⟩) 2 2) [kA, kB] := ⟨cA ++ (cB ++ []), ⟨rfl, _, 2, rfl, by simp, by simp [maxLen], fun _ => ⟨b1, 0, rfl, trivial, h1.lt, fun j u hu => by rw [Nat.zero_add, h1.cell]; simpa using hu⟩⟩, ⟨_, _, rfl, hA, ⟨_, _, rfl, hB, rfl⟩⟩⟩
  exact ⟨_, _, rfl, hl, Sl.nil _ _⟩
theorem kO_at (w : World) (b1 : Nat) (h1 : Blk w b1 TFIELD #[.string ⟨#[98]⟩, .int .u8 0, .int .i64 0, .string ⟨#[]⟩, .slice none 0 0, .slice none 0 0]) :
    VAt w (fun _ => True) (.agg #[.int .u8 5, .int .i64 0, .string ⟨#[]⟩, .slice none 0 0, .slice (some ⟨b1, 0, none⟩) 1 1]) kO := by
  have hZ : rdV w (fun _ => True) kZ cZ := (flat_at' w _ 0 0 ⟨#[]⟩)
  refine ⟨.slice none 0 0, .slice (some ⟨b1, 0, none⟩) 1 1, rfl, Sl.nil _ _, ⟨_, ⟨rfl, _, 1, rfl, by simp [V.o], by simp [maxLen], fun _ => ⟨b1, 0, rfl, trivial, h1.lt, fun j u hu => by rw [Nat.zero_add, h1.cell]; simpa [F.key] using hu⟩⟩, Cells.single (rdF_iff.2 ⟨_, rfl, hZ⟩)⟩⟩

set_option maxHeartbeats 6400000 in
theorem known1_ok (w0 w : World) (hv : ValAny w0) (h0 : Ext w0 w) : Calls Tryd.prog 10 #[] w fun e w' => e = .returned (.bool true) ∧ Ext w w' := by
  have HV := hid hv
  have H0 := hid h0
  clear hv h0
  have hE : Ext w ((w.alloc (.cells #[.int .u8 2, .int .i64 1, .string ⟨#[]⟩, .slice none 0 0, .slice none 0 0, .int .u8 3, .int .i64 0, .string ⟨#[97, 98]⟩, .slice none 0 0, .slice none 0 0] TVAL)).alloc (.cells #[.int .u8 4, .int .i64 0, .string ⟨#[]⟩, .slice (some ⟨w.heap.size, 0, none⟩) 2 2, .slice none 0 0] TVAL)) := ((Keep.refl _ _).alloc _).alloc _
  have hb1 := (Blk.new w TVAL #[.int .u8 2, .int .i64 1, .string ⟨#[]⟩, .slice none 0 0, .slice none 0 0, .int .u8 3, .int .i64 0, .string ⟨#[97, 98]⟩, .slice none 0 0, .slice none 0 0]).alloc (.cells #[.int .u8 4, .int .i64 0, .string ⟨#[]⟩, .slice (some ⟨w.heap.size, 0, none⟩) 2 2, .slice none 0 0] TVAL)
  have hb2 := Blk.new (w.alloc (.cells #[.int .u8 2, .int .i64 1, .string ⟨#[]⟩, .slice none 0 0, .slice none 0 0, .int .u8 3, .int .i64 0, .string ⟨#[97, 98]⟩, .slice none 0 0, .slice none 0 0] TVAL)) TVAL #[.int .u8 4, .int .i64 0, .string ⟨#[]⟩, .slice (some ⟨w.heap.size, 0, none⟩) 2 2, .slice none 0 0]
  rw [World.size_alloc] at hb2
  go_enter Tryd.func10, Tryd.ntmps10
  go_wp2_with fail
  generalize (w.alloc (.cells #[.int .u8 2, .int .i64 1, .string ⟨#[]⟩, .slice none 0 0, .slice none 0 0, .int .u8 3, .int .i64 0, .string ⟨#[97, 98]⟩, .slice none 0 0, .slice none 0 0] TVAL)).alloc (.cells #[.int .u8 4, .int .i64 0, .string ⟨#[]⟩, .slice (some ⟨w.heap.size, 0, none⟩) 2 2, .slice none 0 0] TVAL) = w1 at *
  have hva := kL_at w1 _ hb1
  have HVA := hid hva
  have HB2 := hid hb2
  have HE := hid hE
  clear hb1 hb2 hE hva
  refine (copy_val 1000000 kL kL_size (Nat.le_refl _) _ _ _ HVA.out).mono ?_
  rintro e w2 hg
  obtain ⟨u, he, ⟨lx, ox, hu, hlx, hox⟩, hE2⟩ := hg.at_
  obtain ⟨Aw1, cw1, hlx1, _⟩ := hlx.shape
  obtain rfl : lx = .slice Aw1 2 cw1 := hlx1
  obtain ⟨Aw2, cw2, hox1, _⟩ := hox.shape
  obtain rfl : ox = .slice Aw2 0 cw2 := hox1
  obtain rfl : u = .agg #[.int .u8 4, .int .i64 0, .string ⟨#[]⟩, .slice Aw1 2 cw1, .slice Aw2 0 cw2] := hu
  subst he
  clear hg
  have hX : Ext w2 ((w2.alloc (.cells #[.int .u8 4, .int .i64 0, .string ⟨#[]⟩, .slice Aw1 2 cw1, .slice Aw2 0 cw2] TVAL)).alloc (.cells #[.string ⟨#[98]⟩, .int .u8 0, .int .i64 0, .string ⟨#[]⟩, .slice none 0 0, .slice none 0 0] TFIELD)) := ((Keep.refl _ _).alloc _).alloc _
  have hbw := (Blk.new w2 TVAL #[.int .u8 4, .int .i64 0, .string ⟨#[]⟩, .slice Aw1 2 cw1, .slice Aw2 0 cw2]).alloc (.cells #[.string ⟨#[98]⟩, .int .u8 0, .int .i64 0, .string ⟨#[]⟩, .slice none 0 0, .slice none 0 0] TFIELD)
  have hbf := Blk.new (w2.alloc (.cells #[.int .u8 4, .int .i64 0, .string ⟨#[]⟩, .slice Aw1 2 cw1, .slice Aw2 0 cw2] TVAL)) TFIELD #[.string ⟨#[98]⟩, .int .u8 0, .int .i64 0, .string ⟨#[]⟩, .slice none 0 0, .slice none 0 0]
  rw [World.size_alloc] at hbf
  have HVW := hid (show VAt ((w2.alloc (.cells #[.int .u8 4, .int .i64 0, .string ⟨#[]⟩, .slice Aw1 2 cw1, .slice Aw2 0 cw2] TVAL)).alloc (.cells #[.string ⟨#[98]⟩, .int .u8 0, .int .i64 0, .string ⟨#[]⟩, .slice none 0 0, .slice none 0 0] TFIELD)) (fun _ => True) (.agg #[.int .u8 4, .int .i64 0, .string ⟨#[]⟩, .slice Aw1 2 cw1, .slice Aw2 0 cw2]) kL from VAt.ext (VAt.more ⟨_, _, rfl, hlx, hox⟩ fun _ _ _ => trivial) hX)
  have HX := hid hX
  have HBW := hid hbw
  have HBF := hid hbf
  replace HE := hid (HE.out.ext (hE2.ext hX))
  replace HB2 := hid (HB2.out.keep (hE2.ext hX) id)
  replace HVA := hid (HVA.out.ext (hE2.ext hX))
  clear hX hbw hbf hE2 hlx hox
  go_wp2_with fail
  generalize (w2.alloc (.cells #[.int .u8 4, .int .i64 0, .string ⟨#[]⟩, .slice Aw1 2 cw1, .slice Aw2 0 cw2] TVAL)).alloc (.cells #[.string ⟨#[98]⟩, .int .u8 0, .int .i64 0, .string ⟨#[]⟩, .slice none 0 0, .slice none 0 0] TFIELD) = w3 at *
  refine (field_val _ _ _ kO ⟨#[98]⟩ (kO_at w3 _ HBF.out)).mono ?_
  rw [kO_field.1, kO_field.2]
  rintro e w4 ⟨rfl, hE4⟩
  replace HE := hid (HE.out.ext hE4)
  replace HB2 := hid (HB2.out.keep hE4 id)
  replace HVA := hid (HVA.out.ext hE4)
  replace HBW := hid (HBW.out.keep hE4 id)
  replace HVW := hid (HVW.out.ext hE4)
  clear hE4 HBF
  obtain ⟨q0, q1, q2, q3, q4⟩ := blk5 HB2.out
  go_wp2_with fail
  refine (weight_any _ kL (Nat.le_refl _) _ _ _ HVA.out).mono ?_
  rw [kL_weight]
  rintro e w5 ⟨rfl, hE5⟩
  replace HE := hid (HE.out.ext hE5)
  replace HB2 := hid (HB2.out.keep hE5 id)
  replace HVA := hid (HVA.out.ext hE5)
  replace HBW := hid (HBW.out.keep hE5 id)
  replace HVW := hid (HVW.out.ext hE5)
  clear hE5 q0 q1 q2 q3 q4
  have hw5 : wrap64 ((5 : Nat) : Int) = 5 := by unfold wrap64; rfl
  rw [hw5]
  clear hw5
  obtain ⟨q0, q1, q2, q3, q4⟩ := blk5 HB2.out
  go_wp2_with fail
  refine (deep_any _ kL (Nat.le_refl _) kL_size _ _ _ HVA.out).mono ?_
  rw [kL_deep]
  rintro e w6 ⟨rfl, hE6⟩
  replace HE := hid (HE.out.ext hE6)
  replace HB2 := hid (HB2.out.keep hE6 id)
  replace HVA := hid (HVA.out.ext hE6)
  replace HBW := hid (HBW.out.keep hE6 id)
  replace HVW := hid (HVW.out.ext hE6)
  clear hE6 q0 q1 q2 q3 q4
  obtain ⟨q0, q1, q2, q3, q4⟩ := blk5 HB2.out
  go_wp2_with fail
  refine (sound_any w0 HV.out _ kL (Nat.le_refl _) kL_sv.big _ _ _ (H0.out.ext HE.out) HVA.out).mono ?_
  rw [SV.snd kL kL_sv]
  rintro e w7 ⟨rfl, hE7⟩
  replace HE := hid (HE.out.ext hE7)
  replace HB2 := hid (HB2.out.keep hE7 id)
  replace HVA := hid (HVA.out.ext hE7)
  replace HBW := hid (HBW.out.keep hE7 id)
  replace HVW := hid (HVW.out.ext hE7)
  clear hE7 q0 q1 q2 q3 q4
  go_wp2_with fail
  refine (sound_any w0 HV.out _ kN (Nat.le_refl _) kN_str _ (fun _ => True) _ (H0.out.ext HE.out) ⟨_, _, rfl, Sl.nil _ _, Sl.nil _ _⟩).mono ?_
  rw [kN_snd]
  rintro e w8 ⟨rfl, hE8⟩
  replace HE := hid (HE.out.ext hE8)
  replace HB2 := hid (HB2.out.keep hE8 id)
  replace HVA := hid (HVA.out.ext hE8)
  replace HBW := hid (HBW.out.keep hE8 id)
  replace HVW := hid (HVW.out.ext hE8)
  clear hE8
  obtain ⟨q0, q1, q2, q3, q4⟩ := blk5 HB2.out
  obtain ⟨p0, p1, p2, p3, p4⟩ := blk5 HBW.out
  go_wp2_with fail
  refine (same_any _ kL (Nat.le_refl _) kL true (by simp) _ _ _ _ _ HVA.out HVW.out).mono ?_
  rintro e w9 ⟨rfl, hE9⟩
  replace HE := hid (HE.out.ext hE9)
  replace HBW := hid (HBW.out.keep hE9 id)
  clear hE9 q0 q1 q2 q3 q4 p0 p1 p2 p3 p4
  obtain ⟨p0, p1, p2, p3, p4⟩ := blk5 HBW.out
  go_wp2
  go_ret
  exact ⟨rfl, HE.out⟩
end Go.Proofs.YtaemmabaekjkeaaDoor
