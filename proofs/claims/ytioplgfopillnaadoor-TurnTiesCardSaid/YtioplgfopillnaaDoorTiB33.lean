/- TiesB: laid together. -/
import Derived.Test.YtioplgfopillnaaDoorTiB32
import Derived.Test.YtioplgfopillnaaDoorTiB18
import Derived.Deep.CutRange
import Derived.Deep.DeepCutAuto
/- The walk of TurnTies. -/
set_option linter.unusedSimpArgs false
set_option linter.unusedVariables false
namespace Go.Proofs.YtioplgfopillnaaDoor
open Go.RowKit
set_option linter.unusedVariables false

set_option maxRecDepth 20000 in
set_option maxHeartbeats 3200000 in
theorem ties07_ok (w0 w : World) (hva : ValAny w0) (hw0 : Ext w0 w) (S S1 S2 : BS) (lv av bv : Value) (l : List Tk) (a b : Ac) (key : ByteArray) (hl : Sl ETok w S lv l) (ha : AAt w S1 av a) (hb : AAt w S2 bv b) :
    Calls Tryd.prog 6 #[lv, av, bv, .string key] w fun e w' => e = .returned (.bool true) ∧ Ext w w' := by
  obtain ⟨A, c, rfl, hlc, hcm⟩ := hl.shape
  obtain ⟨p1, v1, rfl, a1, a2⟩ := ha
  obtain ⟨p2, v2, rfl, b1, b2⟩ := hb
  obtain ⟨Aa, ca, rfl, _⟩ := a1.shape
  obtain ⟨Av, cv, rfl, _⟩ := a2.shape
  obtain ⟨Ba, da, rfl, _⟩ := b1.shape
  obtain ⟨Bv, dv, rfl, _⟩ := b2.shape
  obtain ⟨W, hW⟩ : ∃ W, (w.alloc (.cells (acCells a (.slice Aa a.path.length ca) (.slice Av a.v.length cv)) TACT)).alloc (.cells (acCells b (.slice Ba b.path.length da) (.slice Bv b.v.length dv)) TACT) = W := ⟨_, rfl⟩
  have hE : Ext w W := by rw [← hW]; exact ((Keep.refl _ _).alloc _).alloc _
  have hba : Blk W w.heap.size TACT (acCells a (.slice Aa a.path.length ca) (.slice Av a.v.length cv)) := by rw [← hW]; exact (Blk.new _ _ _).alloc _
  have hbb : Blk W (w.heap.size + 1) TACT (acCells b (.slice Ba b.path.length da) (.slice Bv b.v.length dv)) := by
    have := Blk.new (w.alloc (.cells (acCells a (.slice Aa a.path.length ca) (.slice Av a.v.length cv)) TACT)) TACT (acCells b (.slice Ba b.path.length da) (.slice Bv b.v.length dv))
    rw [World.size_alloc, hW] at this
    exact this
  have HL := hid (hl.ext ETok.ok hE)
  have HA := hid (show AAt W S1 (.agg (acCells a (.slice Aa a.path.length ca) (.slice Av a.v.length cv))) a from ⟨_, _, rfl, a1.ext EU8.ok hE, a2.ext ETok.ok hE⟩)
  have HB := hid (show AAt W S2 (.agg (acCells b (.slice Ba b.path.length da) (.slice Bv b.v.length dv))) b from ⟨_, _, rfl, b1.ext EU8.ok hE, b2.ext ETok.ok hE⟩)
  have HTA := hid ((a2.more (S' := fun k => k < w.heap.size) ETok.ok fun k h _ => h).ext ETok.ok hE)
  have HTB := hid ((b2.more (S' := fun k => k < w.heap.size) ETok.ok fun k h _ => h).ext ETok.ok hE)
  have HE := hid hE
  have HBA := hid hba
  have HBB := hid hbb
  have HVA := hid hva
  have HW0 := hid hw0
  have x0 := hba.cell 0
  have x1 := hba.cell 1
  have x2 := hba.cell 2
  have x3 := hba.cell 3
  have x4 := hba.cell 4
  have x5 := hba.cell 5
  have x6 := hba.cell 6
  simp at x0 x1 x2 x3 x4 x5 x6
  have y0 := hbb.cell 0
  have y1 := hbb.cell 1
  have y2 := hbb.cell 2
  have y3 := hbb.cell 3
  have y4 := hbb.cell 4
  have y5 := hbb.cell 5
  have y6 := hbb.cell 6
  simp at y0 y1 y2 y3 y4 y5 y6
  clear hl a1 a2 b1 b2 hE hba hbb hlc hcm hva hw0
  go_enter Tryd.func6, Tryd.ntmps6
  go_wp2_with fail
  refine (heavy7_any W _ _ _ _ _ _ l a b HL.out HA.out HB.out).mono ?_
  rintro e W1 ⟨bb, rfl, hE1⟩
  clear hW
  cases bb with
  | true =>
    have HE1 := hid (HE.out.ext hE1)
    clear hE1
    go_wp2_with fail
    refine (known07_ok W1).mono ?_
    rintro e W2 ⟨rfl, hE2⟩
    go_wp2
    go_ret
    exact ⟨rfl, HE1.out.ext hE2⟩
  | false =>
    by_cases hks : 200 < key.size
    · have hksX : (200 : Int) < key.size := by omega
      have HE1 := hid (HE.out.ext hE1)
      clear hE1
      go_wp2_with fail
      refine (known07_ok W1).mono ?_
      rintro e W2 ⟨rfl, hE2⟩
      go_wp2
      go_ret
      exact ⟨rfl, HE1.out.ext hE2⟩
    have hksX : ¬ (200 : Int) < key.size := by omega
    have HKS := hid hks
    have HE1 := hid (HE.out.ext hE1)
    have HL1 := hid (HL.out.ext ETok.ok hE1)
    have HTA1 := hid (HTA.out.ext ETok.ok hE1)
    have HTB1 := hid (HTB.out.ext ETok.ok hE1)
    have HBA1 := hid (HBA.out.keep hE1 id)
    have HBB1 := hid (HBB.out.keep hE1 id)
    clear hE1 HL HA HB HBA HBB HE HTA HTB hks
    go_wp2_with fail
    refine (known07_ok W1).mono ?_
    rintro e W2 ⟨rfl, hE2⟩
    have HE2 := hid (HE1.out.ext hE2)
    have HL2 := hid (HL1.out.ext ETok.ok hE2)
    have HTA2 := hid (HTA1.out.ext ETok.ok hE2)
    have HTB2 := hid (HTB1.out.ext ETok.ok hE2)
    have HBA2 := hid (HBA1.out.keep hE2 id)
    have HBB2 := hid (HBB1.out.keep hE2 id)
    clear hE2 HL1 HTA1 HTB1 HBA1 HBB1 HE1 x0 x1 x2 x3 x4 x5 x6 y0 y1 y2 y3 y4 y5 y6
    go_wp2_with fail
    refine (build_okD _ _ _ _ HL2.out).mono ?_
    rintro e W3 ⟨u, x, rfl, hsv, hsz, ⟨lx, ox, rfl, hlx, hox⟩, hE3⟩
    obtain ⟨Ax1, cx1, rfl, _⟩ := hlx.shape
    obtain ⟨Ax2, cx2, rfl, _⟩ := hox.shape
    have hA : Ext W3 (W3.alloc (.cells #[U8 x.kind, .int .i64 x.n, .string x.s, .slice Ax1 x.l.length cx1, .slice Ax2 x.o.length cx2] TVAL)) := (Keep.refl _ _).alloc _
    have HSx := hid (And.intro hsv hsz)
    have HE3 := hid (HE2.out.ext hE3)
    have HTA3 := hid (HTA2.out.ext ETok.ok hE3)
    have HTB3 := hid (HTB2.out.ext ETok.ok hE3)
    have HBA3 := hid (HBA2.out.keep hE3 id)
    have HBB3 := hid (HBB2.out.keep hE3 id)
    have hvb := Blk.new W3 TVAL #[U8 x.kind, .int .i64 x.n, .string x.s, .slice Ax1 x.l.length cx1, .slice Ax2 x.o.length cx2]
    have HOx := hid ((hox.more (S' := fun k => k < W3.heap.size) EField.ok fun k h _ => h).ext EField.ok hA)
    have HLx := hid ((hlx.more (S' := fun k => k < W3.heap.size) EVal.ok fun k h _ => h).ext EVal.ok hA)
    have HVB := hid hvb
    have hw3 : w.heap.size + 1 < W3.heap.size := (HBB2.out.keep hE3 id).lt
    have HW3 := hid hw3
    obtain ⟨v0, v1, v2, v3, v4⟩ := blk5 hvb
    have f0 := hvb.frozen 0
    have f1 := hvb.frozen 1
    have f2 := hvb.frozen 2
    have f3 := hvb.frozen 3
    have f4 := hvb.frozen 4
    clear hsv hsz hlx hox hA HL2 HTA2 HTB2 HBA2 HBB2 HE2 hvb hw3
    clear hE3
    go_upto_if 41 with fail
    go_cut [] from 39 to 42 (fun wx => ∃ (V1 : V) (lv ov : Value), V1.kind = 5 ∧ SVd 0 V1 ∧ V1.size ≤ 241 ∧ Blk wx W3.heap.size TVAL #[U8 V1.kind, .int .i64 V1.n, .string V1.s, lv, ov] ∧
      Sl EVal wx (fun k => k < W3.heap.size) lv V1.l ∧ Sl EField wx (fun k => k < W3.heap.size) ov V1.o ∧ Ext W3 wx)
    case first =>
      by_cases hkn : x.kind = 5
      · have hkX : (x.kind.toNat : Int) = 5 := by rw [hkn]; rfl
        have HKN := hid hkn
        clear hkn
        go_wp2
        go_meet
        case rel => exact ⟨x, _, _, HKN.out, HSx.out.1, HSx.out.2, HVB.out, HLx.out, HOx.out, (Keep.refl _ _).alloc _⟩
      · have hkX : ¬ (x.kind.toNat : Int) = 5 := fun h => hkn (UInt8.toNat_inj.1 (by rw [show (5 : UInt8).toNat = 5 from rfl]; omega))
        clear hkn
        go_wp2
        go_meet
        case rel =>
          exact ⟨.mk 5 0 ⟨#[]⟩ [] [], _, _, rfl, ⟨flat_sv (.inr (.inr (.inr (.inr (.inr ⟨rfl, rfl, rfl, rfl⟩))))), by simp [V.deep, V.deeps, F.deeps], by rw [VStr]; exact ⟨Nat.zero_le _, by rw [VStrs]; trivial, by rw [FStrs]; trivial⟩⟩, by rw [flat_size]; decide, Blk.new _ _ _, Sl.nil _ _, Sl.nil _ _, (Keep.refl _ _).alloc _⟩
    case rest =>
      obtain ⟨V1, lv, ov, hk5, hsv, hsz, hb1, hl1, ho1, hk1⟩ := hcut
      obtain ⟨Al, cl, rfl, _⟩ := hl1.shape
      obtain ⟨Ao, co, rfl, _⟩ := ho1.shape
      obtain ⟨B9, hB9⟩ : ∃ n, W3.heap.size = n := ⟨_, rfl⟩
      have HW9 := hid (show w.heap.size + 1 < B9 from hB9 ▸ HW3.out)
      have HK5 := hid hk5
      have HSV := hid hsv
      have HSZ := hid hsz
      have HE4 := hid (HE3.out.ext hk1)
      have HTA4 := hid (HTA3.out.ext ETok.ok hk1)
      have HTB4 := hid (HTB3.out.ext ETok.ok hk1)
      have HBA4 := hid (HBA3.out.keep hk1 id)
      have HBB4 := hid (HBB3.out.keep hk1 id)
      rw [hB9] at hb1 hl1 ho1 ⊢
      have HVB4 := hid hb1
      have HL4 := hid hl1
      have HO4 := hid ho1
      clear hk5 hsv hsz hk1 hb1 hl1 ho1 v0 v1 v2 v3 v4 f0 f1 f2 f3 f4 HSx HE3 HTA3 HTB3 HBA3 HBB3 HOx HLx HVB HW3 hB9
      go_wp2_with fail
      go_loopw [10, 11] (fun s i wr => ∃ (j : Nat) (K : ByteArray), s = .string K ∧ i = .int .i64 j ∧ j ≤ key.size ∧ (∀ c ∈ K.data.toList, c.toNat < 128) ∧ K.size = 1 + j ∧ Ext wc wr) (fun _ i _ => key.size - (intOf i).toNat)
      case atStart => exact ⟨0, ⟨#[107]⟩, rfl, rfl, by omega, by decide, rfl, Keep.refl _ _⟩
      case round =>
        obtain ⟨j, K, rfl, rfl, hj, hK, hKs, hEr⟩ := hrel
        have HKC := hid hK
        have HKZ := hid hKs
        have HER := hid hEr
        clear hK hKs hEr
        by_cases hlt : j < key.size
        · have hltX : (j : Int) < key.size := by omega
          have hnew := bytes_new (w := wr) (t := 5) (f := (0, 0)) [97 + key[j] % 26] (by simp [maxLen])
          have hm : (97 + key[j] % 26).toNat = 97 + key[j].toNat % 26 := by
            rw [UInt8.toNat_add, UInt8.toNat_mod]
            show (97 + key[j].toNat % 26) % 256 = _
            omega
          have hu : [97 + key[j] % 26].map U8 = [Value.int .u8 (97 + (key[j].toNat : Int) % 26)] := by
            simp only [List.map_cons, List.map_nil, U8, hm]
            congr 2
          rw [hu] at hnew
          have HC := convert_bytesS hnew
          have HX := hid ((Keep.refl (fun _ => False) wr).alloc (.cells [Value.int .u8 (97 + (key[j].toNat : Int) % 26)].toArray 5))
          have HM := hid hm
          clear hnew hu hm
          simp only [List.length_singleton] at HC
          have hcat : ¬ 9223372036854775807 < K.size + (textOf [97 + key[j] % 26]).size := by
            have h1 := HKZ.out
            have h2 := HKS.out
            have h3 : (textOf [97 + key[j] % 26]).size = 1 := rfl
            omega
          go_wp2
          go_roundw
          case rel => 
            refine ⟨j + 1, _, rfl, by go_num, by omega, fun c hc => ?_, ?_, HER.out.ext HX.out⟩
            · simp only [ByteArray.data_append, textOf, Array.toList_append, List.mem_append, List.mem_singleton] at hc
              rcases hc with hc | rfl
              · exact HKC.out c hc
              · rw [HM.out]; omega
            · rw [ByteArray.size_append, HKZ.out, show (textOf [97 + key[j] % 26]).size = 1 from rfl]; omega
          case measure => simp [intOf]; omega
        · obtain rfl : j = key.size := by omega
          have hltX : ¬ (key.size : Int) < key.size := by omega
          have HKA := hid (show Asc K from ⟨HKC.out, by have := HKZ.out; have := HKS.out; omega⟩)
          have HE5 := hid (HE4.out.ext HER.out)
          have HTA5 := hid (HTA4.out.ext ETok.ok HER.out)
          have HTB5 := hid (HTB4.out.ext ETok.ok HER.out)
          have HBA5 := hid (HBA4.out.keep HER.out id)
          have HBB5 := hid (HBB4.out.keep HER.out id)
          have HVB5 := hid (HVB4.out.keep HER.out id)
          have HL5 := hid (HL4.out.ext EVal.ok HER.out)
          have HO5 := hid (HO4.out.ext EField.ok HER.out)
          obtain ⟨v0, v1, v2, v3, v4⟩ := blk5 HVB5.out
          clear HE4 HTA4 HTB4 HBA4 HBB4 HVB4 HL4 HO4 HER HKC HKZ HKS
          have HV7 := hid (show VAt wr (fun k => k < B9) (.agg #[.int .u8 2, .int .i64 7, .string ⟨#[]⟩, .slice none 0 0, .slice none 0 0]) (.mk 2 7 ⟨#[]⟩ [] []) from ⟨_, _, rfl, Sl.nil _ _, Sl.nil _ _⟩)
          have HON := hid (show V1.o.length ≤ 100000 from by have h1 := F.sizes_len V1.o; have h2 := HSZ.out; cases V1; simp only [V.o] at h1 ⊢; rw [V.size] at h2; omega)
          go_wp2_with fail
          refine (lawwith_ok _ _ _ _ _ _ _ _ HO5.out HV7.out HON.out).mono ?_
          rintro e w5 ⟨u, rfl, how, hE5⟩
          have hown : Sl EField w5 (fun k => k ≠ B9) u (withL V1.o K (.mk 2 7 ⟨#[]⟩ [] [])) := (how.sl EField.ok).more EField.ok fun k _ h => by
            rcases h with h | h
            · have := h.1; omega
            · have h1 := (how.lt h).1; have h2 := HVB5.out.lt; omega
          obtain ⟨Aw, cw, rfl, _⟩ := hown.shape
          have HE6 := hid (HE5.out.ext hE5)
          have HTA6 := hid (HTA5.out.ext ETok.ok hE5)
          have HTB6 := hid (HTB5.out.ext ETok.ok hE5)
          have HBA6 := hid (HBA5.out.keep hE5 id)
          have HBB6 := hid (HBB5.out.keep hE5 id)
          have hvb := HVB5.out.keep hE5 id
          have HL6 := hid (HL5.out.ext EVal.ok hE5)
          have HHO := hid hown
          obtain ⟨v0, v1, v2, v3, v4⟩ := blk5 hvb
          have f4 := hvb.frozen 4
          have HVB6 := hid hvb
          clear HE5 HTA5 HTB5 HBA5 HBB5 HVB5 HL5 HO5 HV7 HON how hE5 hown hvb
          go_upto_region 12 with fail
          have hk := (Keep.refl (· = B9) w5).set1 4 (.slice Aw (withL V1.o K (.mk 2 7 ⟨#[]⟩ [] [])).length cw)
          have h9 := HW9.out
          have HBV := hid (show Blk (w5.setCell ⟨B9, 4, none⟩ (.slice Aw (withL V1.o K (.mk 2 7 ⟨#[]⟩ [] [])).length cw)) B9 TVAL #[U8 V1.kind, .int .i64 V1.n, .string V1.s, .slice Al V1.l.length cl, .slice Aw (withL V1.o K (.mk 2 7 ⟨#[]⟩ [] [])).length cw] from HVB6.out.set_ 4 _)
          have HL7 := hid (HL6.out.keep EVal.ok hk fun q hq e => by omega)
          have HO7 := hid (HHO.out.keep EField.ok hk fun q hq e => hq e)
          have HTA7 := hid (HTA6.out.keep ETok.ok hk fun q hq e => by omega)
          have HTB7 := hid (HTB6.out.keep ETok.ok hk fun q hq e => by omega)
          have HBA7 := hid (HBA6.out.keep hk (by omega))
          have HBB7 := hid (HBB6.out.keep hk (by omega))
          have HE7 := hid (HE6.out.trans hk fun q hq e => by omega)
          clear hk HE6 HTA6 HTB6 HBA6 HBB6 HVB6 HL6 HHO v0 v1 v2 v3 v4 f4
          generalize (w5.setCell ⟨B9, 4, none⟩ (.slice Aw (withL V1.o K (.mk 2 7 ⟨#[]⟩ [] [])).length cw)) = w7 at *
          have x6 := HBA7.out.cell 6
          simp at x6
          go_wp2_with fail
          refine (build_okD _ _ _ _ HTA7.out).mono ?_
          rintro e w8 ⟨u, xv, rfl, hxs, hxz, ⟨lx, ox, rfl, hlx, hox⟩, hE8⟩
          obtain ⟨Px1, px1, rfl, _⟩ := hlx.shape
          obtain ⟨Px2, px2, rfl, _⟩ := hox.shape
          have HXS := hid (And.intro hxs hxz)
          have HXL := hid (hlx.more (S' := fun k => k < w8.heap.size) EVal.ok fun k h _ => h)
          have HXO := hid (hox.more (S' := fun k => k < w8.heap.size) EField.ok fun k h _ => h)
          have HE8 := hid hE8
          have HTB8 := hid (HTB7.out.ext ETok.ok hE8)
          have HBB8 := hid (HBB7.out.keep hE8 id)
          clear hxs hxz hlx hox hE8 HTA7 HTB7 HBA7 HBB7 x6
          go_upto_region 13 with fail

          obtain ⟨X, hX⟩ : ∃ c, c = putC K xv := ⟨_, rfl⟩
          have hE9 : Ext w8 (w8.alloc (.cells #[.int .u8 2, .slice none 0 0, .string K, .int .i64 0, .int .i64 0, .int .i64 0, .int .u8 xv.kind.toNat, .int .i64 xv.n, .string xv.s, .slice Px1 xv.l.length px1, .slice Px2 xv.o.length px2, .string ⟨#[]⟩] 33)) := (Keep.refl _ _).alloc _
          have HBX := hid (show Blk (w8.alloc (.cells #[.int .u8 2, .slice none 0 0, .string K, .int .i64 0, .int .i64 0, .int .i64 0, .int .u8 xv.kind.toNat, .int .i64 xv.n, .string xv.s, .slice Px1 xv.l.length px1, .slice Px2 xv.o.length px2, .string ⟨#[]⟩] 33)) w8.heap.size TCMP (cpCells X (.slice none X.path.length 0) (.slice Px1 X.v.l.length px1) (.slice Px2 X.v.o.length px2)) from by rw [hX]; exact Blk.new _ _ _)
          have HCX := hid (show CAt (w8.alloc (.cells #[.int .u8 2, .slice none 0 0, .string K, .int .i64 0, .int .i64 0, .int .i64 0, .int .u8 xv.kind.toNat, .int .i64 xv.n, .string xv.s, .slice Px1 xv.l.length px1, .slice Px2 xv.o.length px2, .string ⟨#[]⟩] 33)) (fun _ => True) (.agg (cpCells X (.slice none X.path.length 0) (.slice Px1 X.v.l.length px1) (.slice Px2 X.v.o.length px2))) X from by rw [hX]; exact ⟨_, _, _, rfl, Sl.nil _ _, (HXL.out.ext EVal.ok hE9).more EVal.ok fun _ _ _ => trivial, (HXO.out.ext EField.ok hE9).more EField.ok fun _ _ _ => trivial⟩)
          have HX := hid hX
          have HE9 := hid (HE8.out.ext hE9)
          have HTB9 := hid (HTB8.out.ext ETok.ok hE9)
          have HBB9 := hid (HBB8.out.keep hE9 id)
          clear hX hE9 HE8 HTB8 HBB8
          generalize (w8.alloc (.cells #[.int .u8 2, .slice none 0 0, .string K, .int .i64 0, .int .i64 0, .int .i64 0, .int .u8 xv.kind.toNat, .int .i64 xv.n, .string xv.s, .slice Px1 xv.l.length px1, .slice Px2 xv.o.length px2, .string ⟨#[]⟩] 33)) = w9 at *
          have y6 := HBB9.out.cell 6
          simp at y6
          go_wp2_with fail
          refine (build_okD _ _ _ _ HTB9.out).mono ?_
          rintro e w10 ⟨u, yv, rfl, hxs, hxz, ⟨lx, ox, rfl, hlx, hox⟩, hE8⟩
          obtain ⟨Py1, py1, rfl, _⟩ := hlx.shape
          obtain ⟨Py2, py2, rfl, _⟩ := hox.shape
          have HYS := hid (And.intro hxs hxz)
          have HYL := hid (hlx.more (S' := fun k => k < w10.heap.size) EVal.ok fun k h _ => h)
          have HYO := hid (hox.more (S' := fun k => k < w10.heap.size) EField.ok fun k h _ => h)
          have HE10 := hid (HE9.out.ext hE8)
          have HBX10 := hid (HBX.out.keep hE8 id)
          have HCX10 := hid (HCX.out.ext hE8)
          clear hxs hxz hlx hox hE8 HTB9 HBB9 y6 HE9 HBX HCX
          go_upto_region 14 with fail
          obtain ⟨Y, hY⟩ : ∃ c, c = putC K yv := ⟨_, rfl⟩
          have hE9 : Ext w10 (w10.alloc (.cells #[.int .u8 2, .slice none 0 0, .string K, .int .i64 0, .int .i64 0, .int .i64 0, .int .u8 yv.kind.toNat, .int .i64 yv.n, .string yv.s, .slice Py1 yv.l.length py1, .slice Py2 yv.o.length py2, .string ⟨#[]⟩] 33)) := (Keep.refl _ _).alloc _
          have HBY := hid (show Blk (w10.alloc (.cells #[.int .u8 2, .slice none 0 0, .string K, .int .i64 0, .int .i64 0, .int .i64 0, .int .u8 yv.kind.toNat, .int .i64 yv.n, .string yv.s, .slice Py1 yv.l.length py1, .slice Py2 yv.o.length py2, .string ⟨#[]⟩] 33)) w10.heap.size TCMP (cpCells Y (.slice none Y.path.length 0) (.slice Py1 Y.v.l.length py1) (.slice Py2 Y.v.o.length py2)) from by rw [hY]; exact Blk.new _ _ _)
          have HCY := hid (show CAt (w10.alloc (.cells #[.int .u8 2, .slice none 0 0, .string K, .int .i64 0, .int .i64 0, .int .i64 0, .int .u8 yv.kind.toNat, .int .i64 yv.n, .string yv.s, .slice Py1 yv.l.length py1, .slice Py2 yv.o.length py2, .string ⟨#[]⟩] 33)) (fun _ => True) (.agg (cpCells Y (.slice none Y.path.length 0) (.slice Py1 Y.v.l.length py1) (.slice Py2 Y.v.o.length py2))) Y from by rw [hY]; exact ⟨_, _, _, rfl, Sl.nil _ _, (HYL.out.ext EVal.ok hE9).more EVal.ok fun _ _ _ => trivial, (HYO.out.ext EField.ok hE9).more EField.ok fun _ _ _ => trivial⟩)
          have HY := hid hY
          have HE11 := hid (HE10.out.ext hE9)
          have HBX11 := hid (HBX10.out.keep hE9 id)
          have HCX11 := hid (HCX10.out.ext hE9)
          clear hY hE9 HE10 HBX10 HCX10
          generalize (w10.alloc (.cells #[.int .u8 2, .slice none 0 0, .string K, .int .i64 0, .int .i64 0, .int .i64 0, .int .u8 yv.kind.toNat, .int .i64 yv.n, .string yv.s, .slice Py1 yv.l.length py1, .slice Py2 yv.o.length py2, .string ⟨#[]⟩] 33)) = w11 at *
          go_upto_region 15 with fail
          obtain ⟨D, hD⟩ : ∃ c, c = delC K := ⟨_, rfl⟩
          have hE9 : Ext w11 (w11.alloc (.cells #[.int .u8 3, .slice none 0 0, .string K, .int .i64 0, .int .i64 0, .int .i64 0, .int .u8 0, .int .i64 0, .string ⟨#[]⟩, .slice none 0 0, .slice none 0 0, .string ⟨#[]⟩] 33)) := (Keep.refl _ _).alloc _
          have HBD := hid (show Blk (w11.alloc (.cells #[.int .u8 3, .slice none 0 0, .string K, .int .i64 0, .int .i64 0, .int .i64 0, .int .u8 0, .int .i64 0, .string ⟨#[]⟩, .slice none 0 0, .slice none 0 0, .string ⟨#[]⟩] 33)) w11.heap.size TCMP (cpCells D (.slice none D.path.length 0) (.slice none D.v.l.length 0) (.slice none D.v.o.length 0)) from by rw [hD]; exact Blk.new _ _ _)
          have HCD := hid (show CAt (w11.alloc (.cells #[.int .u8 3, .slice none 0 0, .string K, .int .i64 0, .int .i64 0, .int .i64 0, .int .u8 0, .int .i64 0, .string ⟨#[]⟩, .slice none 0 0, .slice none 0 0, .string ⟨#[]⟩] 33)) (fun _ => True) (.agg (cpCells D (.slice none D.path.length 0) (.slice none D.v.l.length 0) (.slice none D.v.o.length 0))) D from by rw [hD]; exact ⟨_, _, _, rfl, Sl.nil _ _, Sl.nil _ _, Sl.nil _ _⟩)
          have HD := hid hD
          have HE12 := hid (HE11.out.ext hE9)
          have HBX12 := hid (HBX11.out.keep hE9 id)
          have HCX12 := hid (HCX11.out.ext hE9)
          have HBY12 := hid (HBY.out.keep hE9 id)
          have HCY12 := hid (HCY.out.ext hE9)
          clear hD hE9 HE11 HBX11 HCX11 HBY HCY
          generalize (w11.alloc (.cells #[.int .u8 3, .slice none 0 0, .string K, .int .i64 0, .int .i64 0, .int .i64 0, .int .u8 0, .int .i64 0, .string ⟨#[]⟩, .slice none 0 0, .slice none 0 0, .string ⟨#[]⟩] 33)) = w12 at *
          have HT := hid (tie_ok (w0 := w0) (v := withO V1 (withL V1.o K (.mk 2 7 ⟨#[]⟩ [] []))) HVA.out HKA.out HXS.out.1 HXS.out.2 HYS.out.1 HYS.out.2 HK5.out (by
            have h1 := withO_size V1 (withL V1.o K (.mk 2 7 ⟨#[]⟩ [] []))
            have h2 := withL_sizes V1.o K (.mk 2 7 ⟨#[]⟩ [] [])
            rw [flat_size] at h2
            have h3 := V.size_eq V1
            have h4 := HSZ.out
            omega) (fieldIs_with _ _ _) (withL_rise ((SV_iff V1).1 HSV.out.1).2.2.2))
          rw [← HX.out, ← HY.out, ← HD.out] at HT
          have HBV12 := hid (HBV.out.keep HE12.out id)
          have HV12 := hid (show VAt w12 (fun k => k < w12.heap.size) (.agg #[U8 V1.kind, .int .i64 V1.n, .string V1.s, .slice Al V1.l.length cl, .slice Aw (withL V1.o K (.mk 2 7 ⟨#[]⟩ [] [])).length cw]) (withO V1 (withL V1.o K (.mk 2 7 ⟨#[]⟩ [] []))) from VAt.more (S := fun _ => True) ⟨_, _, rfl, (HL7.out.ext EVal.ok HE12.out).more EVal.ok fun _ _ _ => trivial, (HO7.out.ext EField.ok HE12.out).more EField.ok fun _ _ _ => trivial⟩ fun k h _ => h)
          obtain ⟨Z, hZ⟩ : ∃ z, withO V1 (withL V1.o K (.mk 2 7 ⟨#[]⟩ [] [])) = z := ⟨_, rfl⟩
          generalize withO (withO V1 (withL V1.o K (.mk 2 7 ⟨#[]⟩ [] []))) (fldR (.mk K xv) false (withO V1 (withL V1.o K (.mk 2 7 ⟨#[]⟩ [] []))).o) = z at HT
          generalize withO V1 (withL V1.o K (.mk 2 7 ⟨#[]⟩ [] [])) = V2 at HT HV12
          generalize (withL V1.o K (.mk 2 7 ⟨#[]⟩ [] [])).length = nw at HBV12 HV12
          have HEw := hid (HE7.out.ext HE12.out)
          have HBD12 := hid HBD.out
          have HCD12 := hid HCD.out
          clear HBD HCD HX HY HD HSV HSZ HK5 HKA HXS HYS HXL HXO HYL HYO HL7 HO7 HBV HW9 hZ Z
          clear v0 v1 v2 v3 v4 h9 HE12 HE7
          have HE12 := hid HEw.out
          clear HEw
          obtain ⟨b0, b1, b2, b3, b4⟩ := blk5 HBV12.out
          have x0 := HBX12.out.cell 0
          have x1 := HBX12.out.cell 1
          have x2 := HBX12.out.cell 2
          have x3 := HBX12.out.cell 3
          have x4 := HBX12.out.cell 4
          have x5 := HBX12.out.cell 5
          have x6 := HBX12.out.cell 6
          have x7 := HBX12.out.cell 7
          have x8 := HBX12.out.cell 8
          have x9 := HBX12.out.cell 9
          have x10 := HBX12.out.cell 10
          have x11 := HBX12.out.cell 11
          simp at x0 x1 x2 x3 x4 x5 x6 x7 x8 x9 x10 x11
          have y0 := HBY12.out.cell 0
          have y1 := HBY12.out.cell 1
          have y2 := HBY12.out.cell 2
          have y3 := HBY12.out.cell 3
          have y4 := HBY12.out.cell 4
          have y5 := HBY12.out.cell 5
          have y6 := HBY12.out.cell 6
          have y7 := HBY12.out.cell 7
          have y8 := HBY12.out.cell 8
          have y9 := HBY12.out.cell 9
          have y10 := HBY12.out.cell 10
          have y11 := HBY12.out.cell 11
          simp at y0 y1 y2 y3 y4 y5 y6 y7 y8 y9 y10 y11
          refine H.wp_region_frees [10] [] [0, 1, 2, 3, 4, 5, 6, 7, 8, 9, 10, 11] [12] [13]
            (H.specOf [(2, fun _ _ => FullC [Y]), (5, fun _ _ => SomeC [X]), (6, fun _ _ => SomeC ([Y] ++ [X])), (7, OutD w12.heap.size z), (11, BoxQ w12.heap.size)])
            (fun w' => Ext w12 w') ?_ (H.stableC_ext _) (by kernel_rfl) (by intro k hk; simp at hk; subst hk; rfl) (by kernel_rfl) (Keep.drew (Keep.refl _ _)) ?_
          · exact H.stable_cons (fun n m v w w' h he => h.ext he) (H.stable_cons (fun n m v w w' h he => h.ext he) (H.stable_cons (fun n m v w w' h he => h.ext he) (H.stable_cons (fun n m v w w' h he => h.ext he) (H.stable_cons (fun n m v w w' h he => h.ext he) H.stable_nil))))
          refine H.pure_nil ?_
          iterate 2
            (try simp only [Act.put, List.setIfInBounds_toArray, List.set_cons_zero, List.set_cons_succ])
            refine H.growP_run rfl rfl rfl ?_
            apply Exists.intro
            refine ⟨fun w' hC hK => ?_, ?_⟩
            · have b0 := (hC.cell (lt_of_cell b0) id).trans b0
              have b1 := (hC.cell (lt_of_cell b1) id).trans b1
              have b2 := (hC.cell (lt_of_cell b2) id).trans b2
              have b3 := (hC.cell (lt_of_cell b3) id).trans b3
              have b4 := (hC.cell (lt_of_cell b4) id).trans b4
              have x0 := (hC.cell (lt_of_cell x0) id).trans x0
              have x1 := (hC.cell (lt_of_cell x1) id).trans x1
              have x2 := (hC.cell (lt_of_cell x2) id).trans x2
              have x3 := (hC.cell (lt_of_cell x3) id).trans x3
              have x4 := (hC.cell (lt_of_cell x4) id).trans x4
              have x5 := (hC.cell (lt_of_cell x5) id).trans x5
              have x6 := (hC.cell (lt_of_cell x6) id).trans x6
              have x7 := (hC.cell (lt_of_cell x7) id).trans x7
              have x8 := (hC.cell (lt_of_cell x8) id).trans x8
              have x9 := (hC.cell (lt_of_cell x9) id).trans x9
              have x10 := (hC.cell (lt_of_cell x10) id).trans x10
              have x11 := (hC.cell (lt_of_cell x11) id).trans x11
              have y0 := (hC.cell (lt_of_cell y0) id).trans y0
              have y1 := (hC.cell (lt_of_cell y1) id).trans y1
              have y2 := (hC.cell (lt_of_cell y2) id).trans y2
              have y3 := (hC.cell (lt_of_cell y3) id).trans y3
              have y4 := (hC.cell (lt_of_cell y4) id).trans y4
              have y5 := (hC.cell (lt_of_cell y5) id).trans y5
              have y6 := (hC.cell (lt_of_cell y6) id).trans y6
              have y7 := (hC.cell (lt_of_cell y7) id).trans y7
              have y8 := (hC.cell (lt_of_cell y8) id).trans y8
              have y9 := (hC.cell (lt_of_cell y9) id).trans y9
              have y10 := (hC.cell (lt_of_cell y10) id).trans y10
              have y11 := (hC.cell (lt_of_cell y11) id).trans y11
              go_simp
              rfl
          (try simp only [Act.put, List.setIfInBounds_toArray, List.set_cons_zero, List.set_cons_succ])
          refine H.growP_eff rfl rfl rfl (fun w' hC hK => ?_) (fun v2r15 nv2r15 mv2r15 hv2r15 => ?_)
          · obtain ⟨pv, lv, ov, e, h1, h2, h3⟩ := HCY12.out.ext hC
            injection e with e
            injection e with e
            simp only [List.cons.injEq, and_true] at e
            obtain ⟨_, rfl, _, _, _, _, _, _, _, rfl, rfl, _⟩ := e
            have hf := full_new h1 h2 h3
            unfold H.growAt
            go_simp
            exact ⟨(Keep.refl _ _).alloc _, hf⟩
          obtain ⟨_, _, adr15, rfl, _⟩ := hv2r15.head
          iterate 2
            (try simp only [Act.put, List.setIfInBounds_toArray, List.set_cons_zero, List.set_cons_succ])
            refine H.growP_run rfl rfl rfl ?_
            apply Exists.intro
            refine ⟨fun w' hC hK => ?_, ?_⟩
            · have b0 := (hC.cell (lt_of_cell b0) id).trans b0
              have b1 := (hC.cell (lt_of_cell b1) id).trans b1
              have b2 := (hC.cell (lt_of_cell b2) id).trans b2
              have b3 := (hC.cell (lt_of_cell b3) id).trans b3
              have b4 := (hC.cell (lt_of_cell b4) id).trans b4
              have x0 := (hC.cell (lt_of_cell x0) id).trans x0
              have x1 := (hC.cell (lt_of_cell x1) id).trans x1
              have x2 := (hC.cell (lt_of_cell x2) id).trans x2
              have x3 := (hC.cell (lt_of_cell x3) id).trans x3
              have x4 := (hC.cell (lt_of_cell x4) id).trans x4
              have x5 := (hC.cell (lt_of_cell x5) id).trans x5
              have x6 := (hC.cell (lt_of_cell x6) id).trans x6
              have x7 := (hC.cell (lt_of_cell x7) id).trans x7
              have x8 := (hC.cell (lt_of_cell x8) id).trans x8
              have x9 := (hC.cell (lt_of_cell x9) id).trans x9
              have x10 := (hC.cell (lt_of_cell x10) id).trans x10
              have x11 := (hC.cell (lt_of_cell x11) id).trans x11
              have y0 := (hC.cell (lt_of_cell y0) id).trans y0
              have y1 := (hC.cell (lt_of_cell y1) id).trans y1
              have y2 := (hC.cell (lt_of_cell y2) id).trans y2
              have y3 := (hC.cell (lt_of_cell y3) id).trans y3
              have y4 := (hC.cell (lt_of_cell y4) id).trans y4
              have y5 := (hC.cell (lt_of_cell y5) id).trans y5
              have y6 := (hC.cell (lt_of_cell y6) id).trans y6
              have y7 := (hC.cell (lt_of_cell y7) id).trans y7
              have y8 := (hC.cell (lt_of_cell y8) id).trans y8
              have y9 := (hC.cell (lt_of_cell y9) id).trans y9
              have y10 := (hC.cell (lt_of_cell y10) id).trans y10
              have y11 := (hC.cell (lt_of_cell y11) id).trans y11
              go_simp
              rfl
          (try simp only [Act.put, List.setIfInBounds_toArray, List.set_cons_zero, List.set_cons_succ])
          refine H.growP_eff rfl rfl rfl (fun w' hC hK => ?_) (fun v5r15 nv5r15 mv5r15 hv5r15 => ?_)
          · have hcall := turn_some (HCX12.out.ext hC) (HCY12.out.ext hC) HT.out.fx HT.out.bx HT.out.by_ HT.out.px HT.out.py HT.out.t1
            unfold H.growAt
            go_simp
            exact H.grow_call hcall
          obtain ⟨_, _, h5⟩ := hv5r15.head
          obtain ⟨A5r15, c5r15, rfl, _⟩ := Sl.shape h5
          clear h5
          (try simp only [Act.put, List.setIfInBounds_toArray, List.set_cons_zero, List.set_cons_succ])
          refine H.growP_eff rfl rfl rfl (fun w' hC hK => ?_) (fun v6r15 nv6r15 mv6r15 hv6r15 => ?_)
          · have hfu : FullC [Y] (.slice (some adr15) 1 1) w' := hK.get (i := 2) (List.mem_cons_of_mem _ List.mem_cons_self) (by kernel_rfl)
            have hso : SomeC [X] (.slice A5r15 1 c5r15) w' := hK.get (i := 5) List.mem_cons_self (by kernel_rfl)
            obtain ⟨v', w6, hr, hs6, hE6⟩ := full_cat hfu hso (by simp)
            unfold H.growAt
            rw [exec_append (v' := v') (w' := w6) rfl rfl rfl hr]
            exact ⟨hE6, hs6⟩
          obtain ⟨_, _, h6⟩ := hv6r15.head
          obtain ⟨A6r15, c6r15, rfl, _⟩ := Sl.shape h6
          clear h6
          (try simp only [Act.put, List.setIfInBounds_toArray, List.set_cons_zero, List.set_cons_succ])
          refine H.growP_eff rfl rfl rfl (fun w' hC hK => ?_) (fun v7r15 nv7r15 mv7r15 hv7r15 => ?_)
          · have hs6 : SomeC ([Y] ++ [X]) _ w' := hK.get (i := 6) List.mem_cons_self (by kernel_rfl)
            have hcall := (done7_ok w0 w' (HW0.out.ext (HE12.out.ext hC)) _ _ _ _ _ _ _ (HV12.out.ext hC) hs6 HT.out.yx).mono fun e w'' h => h.out hC.size (fun q h => h)
            unfold H.growAt
            go_simp
            exact H.grow_call hcall
          obtain ⟨_, _, _, Az1r15, cz1r15, Az2r15, cz2r15, rfl, _⟩ := hv7r15.head
          iterate 3
            (try simp only [Act.put, List.setIfInBounds_toArray, List.set_cons_zero, List.set_cons_succ])
            refine H.growP_run rfl rfl rfl ?_
            apply Exists.intro
            refine ⟨fun w' hC hK => ?_, ?_⟩
            · go_simp
              rfl
          (try simp only [Act.put, List.setIfInBounds_toArray, List.set_cons_zero, List.set_cons_succ])
          refine H.growP_eff rfl rfl rfl (fun w' hC hK => ?_) (fun v11r15 nv11r15 mv11r15 hv11r15 => ?_)
          · unfold H.growAt
            go_simp
            exact ⟨(Keep.refl _ _).alloc _, hC.size, rfl, by simp, Blk.new _ _ _⟩
          obtain ⟨_, _, hn, rfl, hnm, _⟩ := hv11r15.head
          refine H.growP_nil fun wz hC hK => ?_
          have hbox : BoxQ w12.heap.size nv11r15 mv11r15 (.pointer (some ⟨nv11r15, 0, none⟩)) wz := (hK.1 (11, _) List.mem_cons_self).1
          have hout : OutD w12.heap.size z nv7r15 mv7r15 (.tuple #[.agg #[U8 z.kind, .int .i64 z.n, .string z.s, .slice Az1r15 z.l.length cz1r15, .slice Az2r15 z.o.length cz2r15], .bool true]) wz := (hK.1 (7, _) (List.mem_cons_of_mem _ List.mem_cons_self)).1
          have hap : mv11r15 ≤ nv7r15 ∨ mv7r15 ≤ nv11r15 := hK.2 (11, _) List.mem_cons_self (7, _) (List.mem_cons_of_mem _ List.mem_cons_self) (by simp)
          obtain ⟨bq0, bq1, bq2, bq3, bq4⟩ := blk5 hbox.2.2.2
          have bf0 := hbox.2.2.2.frozen 0
          have bf1 := hbox.2.2.2.frozen 1
          have bf2 := hbox.2.2.2.frozen 2
          have bf3 := hbox.2.2.2.frozen 3
          have bf4 := hbox.2.2.2.frozen 4
          have HF := hid (OutD.fill hC hbox hout hap)
          clear hbox hout hap hK hn hnm b0 b1 b2 b3 b4 x0 x1 x2 x3 x4 x5 x6 x7 x8 x9 x10 x11 y0 y1 y2 y3 y4 y5 y6 y7 y8 y9 y10 y11 hv2r15 hv5r15 hv6r15 hv7r15 hv11r15 hC
          change wpList _ _ _ (_ :: []) _ _
          (try simp only [Act.put, List.setIfInBounds_toArray, List.set_cons_zero, List.set_cons_succ])
          go_wp2_with fail
          refine H.Then.normal ?_
          iterate 1
            (try simp only [Act.put, List.setIfInBounds_toArray, List.set_cons_zero, List.set_cons_succ])
            refine H.pure_run rfl rfl ?_
            apply Exists.intro
            refine ⟨fun w' => ?_, ?_⟩
            · go_simp
              rfl
          refine H.pure_nil ?_
          refine NoPanic.normal ?_
          (try simp only [Act.put, List.setIfInBounds_toArray, List.set_cons_zero, List.set_cons_succ])
          obtain ⟨hEz, hBz, hVz⟩ := HF.out
          clear HF bq0 bq1 bq2 bq3 bq4 bf0 bf1 bf2 bf3 bf4
          change Exit.then _ _ Exit.normal _ (fillW wz nv11r15 (U8 z.kind) (.int .i64 z.n) (.string z.s) (.slice Az1r15 z.l.length cz1r15) (.slice Az2r15 z.o.length cz2r15))
          generalize (fillW wz nv11r15 (U8 z.kind) (.int .i64 z.n) (.string z.s) (.slice Az1r15 z.l.length cz1r15) (.slice Az2r15 z.o.length cz2r15)) = w13 at *
          have HR15 := hid (show Blk w13 nv11r15 TVAL #[U8 z.kind, .int .i64 z.n, .string z.s, .slice Az1r15 z.l.length cz1r15, .slice Az2r15 z.o.length cz2r15] from hBz)
          have HP15 := hid (show VAt w13 (fun _ => True) (.agg #[U8 z.kind, .int .i64 z.n, .string z.s, .slice Az1r15 z.l.length cz1r15, .slice Az2r15 z.o.length cz2r15]) z from hVz)
          have HE13 := hid (HE12.out.ext hEz)
          have HV13 := hid ((HV12.out.ext hEz).more (S' := fun q => q < w13.heap.size) fun k h _ => h)
          have HBV13 := hid (HBV12.out.keep hEz id)
          have HBX13 := hid (HBX12.out.keep hEz id)
          have HBY13 := hid (HBY12.out.keep hEz id)
          have HBD13 := hid (HBD12.out.keep hEz id)
          have HCX13 := hid (HCX12.out.ext hEz)
          have HCY13 := hid (HCY12.out.ext hEz)
          have HCD13 := hid (HCD12.out.ext hEz)
          clear hEz hBz hVz HE12 HV12 HBV12 HBX12 HBY12 HBD12 HCX12 HCY12 HCD12
          go_upto_region 16 with fail
          obtain ⟨b0, b1, b2, b3, b4⟩ := blk5 HBV13.out
          have d0 := HBD13.out.cell 0
          have d1 := HBD13.out.cell 1
          have d2 := HBD13.out.cell 2
          have d3 := HBD13.out.cell 3
          have d4 := HBD13.out.cell 4
          have d5 := HBD13.out.cell 5
          have d6 := HBD13.out.cell 6
          have d7 := HBD13.out.cell 7
          have d8 := HBD13.out.cell 8
          have d9 := HBD13.out.cell 9
          have d10 := HBD13.out.cell 10
          have d11 := HBD13.out.cell 11
          simp at d0 d1 d2 d3 d4 d5 d6 d7 d8 d9 d10 d11
          have x0 := HBX13.out.cell 0
          have x1 := HBX13.out.cell 1
          have x2 := HBX13.out.cell 2
          have x3 := HBX13.out.cell 3
          have x4 := HBX13.out.cell 4
          have x5 := HBX13.out.cell 5
          have x6 := HBX13.out.cell 6
          have x7 := HBX13.out.cell 7
          have x8 := HBX13.out.cell 8
          have x9 := HBX13.out.cell 9
          have x10 := HBX13.out.cell 10
          have x11 := HBX13.out.cell 11
          simp at x0 x1 x2 x3 x4 x5 x6 x7 x8 x9 x10 x11
          refine H.wp_region_frees [10] [] [0, 1, 2, 3, 4, 5, 6, 7, 8, 9, 10, 11] [12] [13]
            (H.specOf [(2, fun _ _ => FullC [X]), (5, fun _ _ => SomeC []), (6, fun _ _ => SomeC ([X] ++ [])), (7, OutD w13.heap.size z), (11, BoxQ w13.heap.size)])
            (fun w' => Ext w13 w') ?_ (H.stableC_ext _) (by kernel_rfl) (by intro k hk; simp at hk; subst hk; rfl) (by kernel_rfl) (Keep.drew (Keep.refl _ _)) ?_
          · exact H.stable_cons (fun n m v w w' h he => h.ext he) (H.stable_cons (fun n m v w w' h he => h.ext he) (H.stable_cons (fun n m v w w' h he => h.ext he) (H.stable_cons (fun n m v w w' h he => h.ext he) (H.stable_cons (fun n m v w w' h he => h.ext he) H.stable_nil))))
          refine H.pure_nil ?_
          iterate 2
            (try simp only [Act.put, List.setIfInBounds_toArray, List.set_cons_zero, List.set_cons_succ])
            refine H.growP_run rfl rfl rfl ?_
            apply Exists.intro
            refine ⟨fun w' hC hK => ?_, ?_⟩
            · have b0 := (hC.cell (lt_of_cell b0) id).trans b0
              have b1 := (hC.cell (lt_of_cell b1) id).trans b1
              have b2 := (hC.cell (lt_of_cell b2) id).trans b2
              have b3 := (hC.cell (lt_of_cell b3) id).trans b3
              have b4 := (hC.cell (lt_of_cell b4) id).trans b4
              have d0 := (hC.cell (lt_of_cell d0) id).trans d0
              have d1 := (hC.cell (lt_of_cell d1) id).trans d1
              have d2 := (hC.cell (lt_of_cell d2) id).trans d2
              have d3 := (hC.cell (lt_of_cell d3) id).trans d3
              have d4 := (hC.cell (lt_of_cell d4) id).trans d4
              have d5 := (hC.cell (lt_of_cell d5) id).trans d5
              have d6 := (hC.cell (lt_of_cell d6) id).trans d6
              have d7 := (hC.cell (lt_of_cell d7) id).trans d7
              have d8 := (hC.cell (lt_of_cell d8) id).trans d8
              have d9 := (hC.cell (lt_of_cell d9) id).trans d9
              have d10 := (hC.cell (lt_of_cell d10) id).trans d10
              have d11 := (hC.cell (lt_of_cell d11) id).trans d11
              have x0 := (hC.cell (lt_of_cell x0) id).trans x0
              have x1 := (hC.cell (lt_of_cell x1) id).trans x1
              have x2 := (hC.cell (lt_of_cell x2) id).trans x2
              have x3 := (hC.cell (lt_of_cell x3) id).trans x3
              have x4 := (hC.cell (lt_of_cell x4) id).trans x4
              have x5 := (hC.cell (lt_of_cell x5) id).trans x5
              have x6 := (hC.cell (lt_of_cell x6) id).trans x6
              have x7 := (hC.cell (lt_of_cell x7) id).trans x7
              have x8 := (hC.cell (lt_of_cell x8) id).trans x8
              have x9 := (hC.cell (lt_of_cell x9) id).trans x9
              have x10 := (hC.cell (lt_of_cell x10) id).trans x10
              have x11 := (hC.cell (lt_of_cell x11) id).trans x11
              go_simp
              rfl
          (try simp only [Act.put, List.setIfInBounds_toArray, List.set_cons_zero, List.set_cons_succ])
          refine H.growP_eff rfl rfl rfl (fun w' hC hK => ?_) (fun v2r16 nv2r16 mv2r16 hv2r16 => ?_)
          · obtain ⟨pv, lv, ov, e, h1, h2, h3⟩ := HCX13.out.ext hC
            injection e with e
            injection e with e
            simp only [List.cons.injEq, and_true] at e
            obtain ⟨_, rfl, _, _, _, _, _, _, _, rfl, rfl, _⟩ := e
            have hf := full_new h1 h2 h3
            unfold H.growAt
            go_simp
            exact ⟨(Keep.refl _ _).alloc _, hf⟩
          obtain ⟨_, _, adr16, rfl, _⟩ := hv2r16.head
          iterate 2
            (try simp only [Act.put, List.setIfInBounds_toArray, List.set_cons_zero, List.set_cons_succ])
            refine H.growP_run rfl rfl rfl ?_
            apply Exists.intro
            refine ⟨fun w' hC hK => ?_, ?_⟩
            · have b0 := (hC.cell (lt_of_cell b0) id).trans b0
              have b1 := (hC.cell (lt_of_cell b1) id).trans b1
              have b2 := (hC.cell (lt_of_cell b2) id).trans b2
              have b3 := (hC.cell (lt_of_cell b3) id).trans b3
              have b4 := (hC.cell (lt_of_cell b4) id).trans b4
              have d0 := (hC.cell (lt_of_cell d0) id).trans d0
              have d1 := (hC.cell (lt_of_cell d1) id).trans d1
              have d2 := (hC.cell (lt_of_cell d2) id).trans d2
              have d3 := (hC.cell (lt_of_cell d3) id).trans d3
              have d4 := (hC.cell (lt_of_cell d4) id).trans d4
              have d5 := (hC.cell (lt_of_cell d5) id).trans d5
              have d6 := (hC.cell (lt_of_cell d6) id).trans d6
              have d7 := (hC.cell (lt_of_cell d7) id).trans d7
              have d8 := (hC.cell (lt_of_cell d8) id).trans d8
              have d9 := (hC.cell (lt_of_cell d9) id).trans d9
              have d10 := (hC.cell (lt_of_cell d10) id).trans d10
              have d11 := (hC.cell (lt_of_cell d11) id).trans d11
              have x0 := (hC.cell (lt_of_cell x0) id).trans x0
              have x1 := (hC.cell (lt_of_cell x1) id).trans x1
              have x2 := (hC.cell (lt_of_cell x2) id).trans x2
              have x3 := (hC.cell (lt_of_cell x3) id).trans x3
              have x4 := (hC.cell (lt_of_cell x4) id).trans x4
              have x5 := (hC.cell (lt_of_cell x5) id).trans x5
              have x6 := (hC.cell (lt_of_cell x6) id).trans x6
              have x7 := (hC.cell (lt_of_cell x7) id).trans x7
              have x8 := (hC.cell (lt_of_cell x8) id).trans x8
              have x9 := (hC.cell (lt_of_cell x9) id).trans x9
              have x10 := (hC.cell (lt_of_cell x10) id).trans x10
              have x11 := (hC.cell (lt_of_cell x11) id).trans x11
              go_simp
              rfl
          (try simp only [Act.put, List.setIfInBounds_toArray, List.set_cons_zero, List.set_cons_succ])
          refine H.growP_eff rfl rfl rfl (fun w' hC hK => ?_) (fun v5r16 nv5r16 mv5r16 hv5r16 => ?_)
          · have hcall := turn_some (HCD13.out.ext hC) (HCX13.out.ext hC) HT.out.fd HT.out.bd HT.out.bx HT.out.pd HT.out.px HT.out.t2
            unfold H.growAt
            go_simp
            exact H.grow_call hcall
          obtain ⟨_, _, h5⟩ := hv5r16.head
          obtain ⟨A5r16, c5r16, rfl, _⟩ := Sl.shape h5
          clear h5
          (try simp only [Act.put, List.setIfInBounds_toArray, List.set_cons_zero, List.set_cons_succ])
          refine H.growP_eff rfl rfl rfl (fun w' hC hK => ?_) (fun v6r16 nv6r16 mv6r16 hv6r16 => ?_)
          · have hfu : FullC [X] (.slice (some adr16) 1 1) w' := hK.get (i := 2) (List.mem_cons_of_mem _ List.mem_cons_self) (by kernel_rfl)
            have hso : SomeC [] (.slice A5r16 0 c5r16) w' := hK.get (i := 5) List.mem_cons_self (by kernel_rfl)
            obtain ⟨v', w6, hr, hs6, hE6⟩ := full_cat hfu hso (by simp)
            unfold H.growAt
            rw [exec_append (v' := v') (w' := w6) rfl rfl rfl hr]
            exact ⟨hE6, hs6⟩
          obtain ⟨_, _, h6⟩ := hv6r16.head
          obtain ⟨A6r16, c6r16, rfl, _⟩ := Sl.shape h6
          clear h6
          (try simp only [Act.put, List.setIfInBounds_toArray, List.set_cons_zero, List.set_cons_succ])
          refine H.growP_eff rfl rfl rfl (fun w' hC hK => ?_) (fun v7r16 nv7r16 mv7r16 hv7r16 => ?_)
          · have hs6 : SomeC ([X] ++ []) _ w' := hK.get (i := 6) List.mem_cons_self (by kernel_rfl)
            have hcall := (done7_ok w0 w' (HW0.out.ext (HE13.out.ext hC)) _ _ _ _ _ _ _ (HV13.out.ext hC) hs6 HT.out.x).mono fun e w'' h => h.out hC.size (fun q h => h)
            unfold H.growAt
            go_simp
            exact H.grow_call hcall
          obtain ⟨_, _, _, Az1r16, cz1r16, Az2r16, cz2r16, rfl, _⟩ := hv7r16.head
          iterate 3
            (try simp only [Act.put, List.setIfInBounds_toArray, List.set_cons_zero, List.set_cons_succ])
            refine H.growP_run rfl rfl rfl ?_
            apply Exists.intro
            refine ⟨fun w' hC hK => ?_, ?_⟩
            · go_simp
              rfl
          (try simp only [Act.put, List.setIfInBounds_toArray, List.set_cons_zero, List.set_cons_succ])
          refine H.growP_eff rfl rfl rfl (fun w' hC hK => ?_) (fun v11r16 nv11r16 mv11r16 hv11r16 => ?_)
          · unfold H.growAt
            go_simp
            exact ⟨(Keep.refl _ _).alloc _, hC.size, rfl, by simp, Blk.new _ _ _⟩
          obtain ⟨_, _, hn, rfl, hnm, _⟩ := hv11r16.head
          refine H.growP_nil fun wz hC hK => ?_
          have hbox : BoxQ w13.heap.size nv11r16 mv11r16 (.pointer (some ⟨nv11r16, 0, none⟩)) wz := (hK.1 (11, _) List.mem_cons_self).1
          have hout : OutD w13.heap.size z nv7r16 mv7r16 (.tuple #[.agg #[U8 z.kind, .int .i64 z.n, .string z.s, .slice Az1r16 z.l.length cz1r16, .slice Az2r16 z.o.length cz2r16], .bool true]) wz := (hK.1 (7, _) (List.mem_cons_of_mem _ List.mem_cons_self)).1
          have hap : mv11r16 ≤ nv7r16 ∨ mv7r16 ≤ nv11r16 := hK.2 (11, _) List.mem_cons_self (7, _) (List.mem_cons_of_mem _ List.mem_cons_self) (by simp)
          obtain ⟨bq0, bq1, bq2, bq3, bq4⟩ := blk5 hbox.2.2.2
          have bf0 := hbox.2.2.2.frozen 0
          have bf1 := hbox.2.2.2.frozen 1
          have bf2 := hbox.2.2.2.frozen 2
          have bf3 := hbox.2.2.2.frozen 3
          have bf4 := hbox.2.2.2.frozen 4
          have HF := hid (OutD.fill hC hbox hout hap)
          clear hbox hout hap hK hn hnm b0 b1 b2 b3 b4 d0 d1 d2 d3 d4 d5 d6 d7 d8 d9 d10 d11 x0 x1 x2 x3 x4 x5 x6 x7 x8 x9 x10 x11 hv2r16 hv5r16 hv6r16 hv7r16 hv11r16 hC
          change wpList _ _ _ (_ :: []) _ _
          (try simp only [Act.put, List.setIfInBounds_toArray, List.set_cons_zero, List.set_cons_succ])
          go_wp2_with fail
          refine H.Then.normal ?_
          iterate 1
            (try simp only [Act.put, List.setIfInBounds_toArray, List.set_cons_zero, List.set_cons_succ])
            refine H.pure_run rfl rfl ?_
            apply Exists.intro
            refine ⟨fun w' => ?_, ?_⟩
            · go_simp
              rfl
          refine H.pure_nil ?_
          refine NoPanic.normal ?_
          (try simp only [Act.put, List.setIfInBounds_toArray, List.set_cons_zero, List.set_cons_succ])
          obtain ⟨hEz, hBz, hVz⟩ := HF.out
          clear HF bq0 bq1 bq2 bq3 bq4 bf0 bf1 bf2 bf3 bf4
          change Exit.then _ _ Exit.normal _ (fillW wz nv11r16 (U8 z.kind) (.int .i64 z.n) (.string z.s) (.slice Az1r16 z.l.length cz1r16) (.slice Az2r16 z.o.length cz2r16))
          generalize (fillW wz nv11r16 (U8 z.kind) (.int .i64 z.n) (.string z.s) (.slice Az1r16 z.l.length cz1r16) (.slice Az2r16 z.o.length cz2r16)) = w14 at *
          have HR16 := hid (show Blk w14 nv11r16 TVAL #[U8 z.kind, .int .i64 z.n, .string z.s, .slice Az1r16 z.l.length cz1r16, .slice Az2r16 z.o.length cz2r16] from hBz)
          have HP16 := hid (show VAt w14 (fun _ => True) (.agg #[U8 z.kind, .int .i64 z.n, .string z.s, .slice Az1r16 z.l.length cz1r16, .slice Az2r16 z.o.length cz2r16]) z from hVz)
          have HE14 := hid (HE13.out.ext hEz)
          have HV14 := hid ((HV13.out.ext hEz).more (S' := fun q => q < w14.heap.size) fun k h _ => h)
          have HBV14 := hid (HBV13.out.keep hEz id)
          have HBX14 := hid (HBX13.out.keep hEz id)
          have HBY14 := hid (HBY13.out.keep hEz id)
          have HBD14 := hid (HBD13.out.keep hEz id)
          have HCX14 := hid (HCX13.out.ext hEz)
          have HCY14 := hid (HCY13.out.ext hEz)
          have HCD14 := hid (HCD13.out.ext hEz)
          replace HR15 := hid (HR15.out.keep hEz id)
          replace HP15 := hid (HP15.out.ext hEz)
          clear hEz hBz hVz HE13 HV13 HBV13 HBX13 HBY13 HBD13 HCX13 HCY13 HCD13
          go_upto_region 17 with fail
          obtain ⟨b0, b1, b2, b3, b4⟩ := blk5 HBV14.out
          have d0 := HBD14.out.cell 0
          have d1 := HBD14.out.cell 1
          have d2 := HBD14.out.cell 2
          have d3 := HBD14.out.cell 3
          have d4 := HBD14.out.cell 4
          have d5 := HBD14.out.cell 5
          have d6 := HBD14.out.cell 6
          have d7 := HBD14.out.cell 7
          have d8 := HBD14.out.cell 8
          have d9 := HBD14.out.cell 9
          have d10 := HBD14.out.cell 10
          have d11 := HBD14.out.cell 11
          simp at d0 d1 d2 d3 d4 d5 d6 d7 d8 d9 d10 d11
          have x0 := HBX14.out.cell 0
          have x1 := HBX14.out.cell 1
          have x2 := HBX14.out.cell 2
          have x3 := HBX14.out.cell 3
          have x4 := HBX14.out.cell 4
          have x5 := HBX14.out.cell 5
          have x6 := HBX14.out.cell 6
          have x7 := HBX14.out.cell 7
          have x8 := HBX14.out.cell 8
          have x9 := HBX14.out.cell 9
          have x10 := HBX14.out.cell 10
          have x11 := HBX14.out.cell 11
          simp at x0 x1 x2 x3 x4 x5 x6 x7 x8 x9 x10 x11
          refine H.wp_region_frees [10] [] [0, 1, 2, 3, 4, 5, 6, 7, 8, 9, 10, 11] [12] [13]
            (H.specOf [(2, fun _ _ => FullC [D]), (5, fun _ _ => SomeC [X]), (6, fun _ _ => SomeC ([D] ++ [X])), (7, OutD w14.heap.size z), (11, BoxQ w14.heap.size)])
            (fun w' => Ext w14 w') ?_ (H.stableC_ext _) (by kernel_rfl) (by intro k hk; simp at hk; subst hk; rfl) (by kernel_rfl) (Keep.drew (Keep.refl _ _)) ?_
          · exact H.stable_cons (fun n m v w w' h he => h.ext he) (H.stable_cons (fun n m v w w' h he => h.ext he) (H.stable_cons (fun n m v w w' h he => h.ext he) (H.stable_cons (fun n m v w w' h he => h.ext he) (H.stable_cons (fun n m v w w' h he => h.ext he) H.stable_nil))))
          refine H.pure_nil ?_
          iterate 2
            (try simp only [Act.put, List.setIfInBounds_toArray, List.set_cons_zero, List.set_cons_succ])
            refine H.growP_run rfl rfl rfl ?_
            apply Exists.intro
            refine ⟨fun w' hC hK => ?_, ?_⟩
            · have b0 := (hC.cell (lt_of_cell b0) id).trans b0
              have b1 := (hC.cell (lt_of_cell b1) id).trans b1
              have b2 := (hC.cell (lt_of_cell b2) id).trans b2
              have b3 := (hC.cell (lt_of_cell b3) id).trans b3
              have b4 := (hC.cell (lt_of_cell b4) id).trans b4
              have d0 := (hC.cell (lt_of_cell d0) id).trans d0
              have d1 := (hC.cell (lt_of_cell d1) id).trans d1
              have d2 := (hC.cell (lt_of_cell d2) id).trans d2
              have d3 := (hC.cell (lt_of_cell d3) id).trans d3
              have d4 := (hC.cell (lt_of_cell d4) id).trans d4
              have d5 := (hC.cell (lt_of_cell d5) id).trans d5
              have d6 := (hC.cell (lt_of_cell d6) id).trans d6
              have d7 := (hC.cell (lt_of_cell d7) id).trans d7
              have d8 := (hC.cell (lt_of_cell d8) id).trans d8
              have d9 := (hC.cell (lt_of_cell d9) id).trans d9
              have d10 := (hC.cell (lt_of_cell d10) id).trans d10
              have d11 := (hC.cell (lt_of_cell d11) id).trans d11
              have x0 := (hC.cell (lt_of_cell x0) id).trans x0
              have x1 := (hC.cell (lt_of_cell x1) id).trans x1
              have x2 := (hC.cell (lt_of_cell x2) id).trans x2
              have x3 := (hC.cell (lt_of_cell x3) id).trans x3
              have x4 := (hC.cell (lt_of_cell x4) id).trans x4
              have x5 := (hC.cell (lt_of_cell x5) id).trans x5
              have x6 := (hC.cell (lt_of_cell x6) id).trans x6
              have x7 := (hC.cell (lt_of_cell x7) id).trans x7
              have x8 := (hC.cell (lt_of_cell x8) id).trans x8
              have x9 := (hC.cell (lt_of_cell x9) id).trans x9
              have x10 := (hC.cell (lt_of_cell x10) id).trans x10
              have x11 := (hC.cell (lt_of_cell x11) id).trans x11
              go_simp
              rfl
          (try simp only [Act.put, List.setIfInBounds_toArray, List.set_cons_zero, List.set_cons_succ])
          refine H.growP_eff rfl rfl rfl (fun w' hC hK => ?_) (fun v2r17 nv2r17 mv2r17 hv2r17 => ?_)
          · obtain ⟨pv, lv, ov, e, h1, h2, h3⟩ := HCD14.out.ext hC
            injection e with e
            injection e with e
            simp only [List.cons.injEq, and_true] at e
            obtain ⟨_, rfl, _, _, _, _, _, _, _, rfl, rfl, _⟩ := e
            have hf := full_new h1 h2 h3
            unfold H.growAt
            go_simp
            exact ⟨(Keep.refl _ _).alloc _, hf⟩
          obtain ⟨_, _, adr17, rfl, _⟩ := hv2r17.head
          iterate 2
            (try simp only [Act.put, List.setIfInBounds_toArray, List.set_cons_zero, List.set_cons_succ])
            refine H.growP_run rfl rfl rfl ?_
            apply Exists.intro
            refine ⟨fun w' hC hK => ?_, ?_⟩
            · have b0 := (hC.cell (lt_of_cell b0) id).trans b0
              have b1 := (hC.cell (lt_of_cell b1) id).trans b1
              have b2 := (hC.cell (lt_of_cell b2) id).trans b2
              have b3 := (hC.cell (lt_of_cell b3) id).trans b3
              have b4 := (hC.cell (lt_of_cell b4) id).trans b4
              have d0 := (hC.cell (lt_of_cell d0) id).trans d0
              have d1 := (hC.cell (lt_of_cell d1) id).trans d1
              have d2 := (hC.cell (lt_of_cell d2) id).trans d2
              have d3 := (hC.cell (lt_of_cell d3) id).trans d3
              have d4 := (hC.cell (lt_of_cell d4) id).trans d4
              have d5 := (hC.cell (lt_of_cell d5) id).trans d5
              have d6 := (hC.cell (lt_of_cell d6) id).trans d6
              have d7 := (hC.cell (lt_of_cell d7) id).trans d7
              have d8 := (hC.cell (lt_of_cell d8) id).trans d8
              have d9 := (hC.cell (lt_of_cell d9) id).trans d9
              have d10 := (hC.cell (lt_of_cell d10) id).trans d10
              have d11 := (hC.cell (lt_of_cell d11) id).trans d11
              have x0 := (hC.cell (lt_of_cell x0) id).trans x0
              have x1 := (hC.cell (lt_of_cell x1) id).trans x1
              have x2 := (hC.cell (lt_of_cell x2) id).trans x2
              have x3 := (hC.cell (lt_of_cell x3) id).trans x3
              have x4 := (hC.cell (lt_of_cell x4) id).trans x4
              have x5 := (hC.cell (lt_of_cell x5) id).trans x5
              have x6 := (hC.cell (lt_of_cell x6) id).trans x6
              have x7 := (hC.cell (lt_of_cell x7) id).trans x7
              have x8 := (hC.cell (lt_of_cell x8) id).trans x8
              have x9 := (hC.cell (lt_of_cell x9) id).trans x9
              have x10 := (hC.cell (lt_of_cell x10) id).trans x10
              have x11 := (hC.cell (lt_of_cell x11) id).trans x11
              go_simp
              rfl
          (try simp only [Act.put, List.setIfInBounds_toArray, List.set_cons_zero, List.set_cons_succ])
          refine H.growP_eff rfl rfl rfl (fun w' hC hK => ?_) (fun v5r17 nv5r17 mv5r17 hv5r17 => ?_)
          · have hcall := turn_some (HCX14.out.ext hC) (HCD14.out.ext hC) HT.out.fx HT.out.bx HT.out.bd HT.out.px HT.out.pd HT.out.t3
            unfold H.growAt
            go_simp
            exact H.grow_call hcall
          obtain ⟨_, _, h5⟩ := hv5r17.head
          obtain ⟨A5r17, c5r17, rfl, _⟩ := Sl.shape h5
          clear h5
          (try simp only [Act.put, List.setIfInBounds_toArray, List.set_cons_zero, List.set_cons_succ])
          refine H.growP_eff rfl rfl rfl (fun w' hC hK => ?_) (fun v6r17 nv6r17 mv6r17 hv6r17 => ?_)
          · have hfu : FullC [D] (.slice (some adr17) 1 1) w' := hK.get (i := 2) (List.mem_cons_of_mem _ List.mem_cons_self) (by kernel_rfl)
            have hso : SomeC [X] (.slice A5r17 1 c5r17) w' := hK.get (i := 5) List.mem_cons_self (by kernel_rfl)
            obtain ⟨v', w6, hr, hs6, hE6⟩ := full_cat hfu hso (by simp)
            unfold H.growAt
            rw [exec_append (v' := v') (w' := w6) rfl rfl rfl hr]
            exact ⟨hE6, hs6⟩
          obtain ⟨_, _, h6⟩ := hv6r17.head
          obtain ⟨A6r17, c6r17, rfl, _⟩ := Sl.shape h6
          clear h6
          (try simp only [Act.put, List.setIfInBounds_toArray, List.set_cons_zero, List.set_cons_succ])
          refine H.growP_eff rfl rfl rfl (fun w' hC hK => ?_) (fun v7r17 nv7r17 mv7r17 hv7r17 => ?_)
          · have hs6 : SomeC ([D] ++ [X]) _ w' := hK.get (i := 6) List.mem_cons_self (by kernel_rfl)
            have hcall := (done7_ok w0 w' (HW0.out.ext (HE14.out.ext hC)) _ _ _ _ _ _ _ (HV14.out.ext hC) hs6 HT.out.dx).mono fun e w'' h => h.out hC.size (fun q h => h)
            unfold H.growAt
            go_simp
            exact H.grow_call hcall
          obtain ⟨_, _, _, Az1r17, cz1r17, Az2r17, cz2r17, rfl, _⟩ := hv7r17.head
          iterate 3
            (try simp only [Act.put, List.setIfInBounds_toArray, List.set_cons_zero, List.set_cons_succ])
            refine H.growP_run rfl rfl rfl ?_
            apply Exists.intro
            refine ⟨fun w' hC hK => ?_, ?_⟩
            · go_simp
              rfl
          (try simp only [Act.put, List.setIfInBounds_toArray, List.set_cons_zero, List.set_cons_succ])
          refine H.growP_eff rfl rfl rfl (fun w' hC hK => ?_) (fun v11r17 nv11r17 mv11r17 hv11r17 => ?_)
          · unfold H.growAt
            go_simp
            exact ⟨(Keep.refl _ _).alloc _, hC.size, rfl, by simp, Blk.new _ _ _⟩
          obtain ⟨_, _, hn, rfl, hnm, _⟩ := hv11r17.head
          refine H.growP_nil fun wz hC hK => ?_
          have hbox : BoxQ w14.heap.size nv11r17 mv11r17 (.pointer (some ⟨nv11r17, 0, none⟩)) wz := (hK.1 (11, _) List.mem_cons_self).1
          have hout : OutD w14.heap.size z nv7r17 mv7r17 (.tuple #[.agg #[U8 z.kind, .int .i64 z.n, .string z.s, .slice Az1r17 z.l.length cz1r17, .slice Az2r17 z.o.length cz2r17], .bool true]) wz := (hK.1 (7, _) (List.mem_cons_of_mem _ List.mem_cons_self)).1
          have hap : mv11r17 ≤ nv7r17 ∨ mv7r17 ≤ nv11r17 := hK.2 (11, _) List.mem_cons_self (7, _) (List.mem_cons_of_mem _ List.mem_cons_self) (by simp)
          obtain ⟨bq0, bq1, bq2, bq3, bq4⟩ := blk5 hbox.2.2.2
          have bf0 := hbox.2.2.2.frozen 0
          have bf1 := hbox.2.2.2.frozen 1
          have bf2 := hbox.2.2.2.frozen 2
          have bf3 := hbox.2.2.2.frozen 3
          have bf4 := hbox.2.2.2.frozen 4
          have HF := hid (OutD.fill hC hbox hout hap)
          clear hbox hout hap hK hn hnm b0 b1 b2 b3 b4 d0 d1 d2 d3 d4 d5 d6 d7 d8 d9 d10 d11 x0 x1 x2 x3 x4 x5 x6 x7 x8 x9 x10 x11 hv2r17 hv5r17 hv6r17 hv7r17 hv11r17 hC
          change wpList _ _ _ (_ :: []) _ _
          (try simp only [Act.put, List.setIfInBounds_toArray, List.set_cons_zero, List.set_cons_succ])
          go_wp2_with fail
          refine H.Then.normal ?_
          iterate 1
            (try simp only [Act.put, List.setIfInBounds_toArray, List.set_cons_zero, List.set_cons_succ])
            refine H.pure_run rfl rfl ?_
            apply Exists.intro
            refine ⟨fun w' => ?_, ?_⟩
            · go_simp
              rfl
          refine H.pure_nil ?_
          refine NoPanic.normal ?_
          (try simp only [Act.put, List.setIfInBounds_toArray, List.set_cons_zero, List.set_cons_succ])
          obtain ⟨hEz, hBz, hVz⟩ := HF.out
          clear HF bq0 bq1 bq2 bq3 bq4 bf0 bf1 bf2 bf3 bf4
          change Exit.then _ _ Exit.normal _ (fillW wz nv11r17 (U8 z.kind) (.int .i64 z.n) (.string z.s) (.slice Az1r17 z.l.length cz1r17) (.slice Az2r17 z.o.length cz2r17))
          generalize (fillW wz nv11r17 (U8 z.kind) (.int .i64 z.n) (.string z.s) (.slice Az1r17 z.l.length cz1r17) (.slice Az2r17 z.o.length cz2r17)) = w15 at *
          have HR17 := hid (show Blk w15 nv11r17 TVAL #[U8 z.kind, .int .i64 z.n, .string z.s, .slice Az1r17 z.l.length cz1r17, .slice Az2r17 z.o.length cz2r17] from hBz)
          have HP17 := hid (show VAt w15 (fun _ => True) (.agg #[U8 z.kind, .int .i64 z.n, .string z.s, .slice Az1r17 z.l.length cz1r17, .slice Az2r17 z.o.length cz2r17]) z from hVz)
          have HE15 := hid (HE14.out.ext hEz)
          have HV15 := hid ((HV14.out.ext hEz).more (S' := fun q => q < w15.heap.size) fun k h _ => h)
          have HBV15 := hid (HBV14.out.keep hEz id)
          have HBX15 := hid (HBX14.out.keep hEz id)
          have HBY15 := hid (HBY14.out.keep hEz id)
          have HBD15 := hid (HBD14.out.keep hEz id)
          have HCX15 := hid (HCX14.out.ext hEz)
          have HCY15 := hid (HCY14.out.ext hEz)
          have HCD15 := hid (HCD14.out.ext hEz)
          replace HR15 := hid (HR15.out.keep hEz id)
          replace HP15 := hid (HP15.out.ext hEz)
          replace HR16 := hid (HR16.out.keep hEz id)
          replace HP16 := hid (HP16.out.ext hEz)
          clear hEz hBz hVz HE14 HV14 HBV14 HBX14 HBY14 HBD14 HCX14 HCY14 HCD14
          go_upto_region 18 with fail
          obtain ⟨b0, b1, b2, b3, b4⟩ := blk5 HBV15.out
          have x0 := HBX15.out.cell 0
          have x1 := HBX15.out.cell 1
          have x2 := HBX15.out.cell 2
          have x3 := HBX15.out.cell 3
          have x4 := HBX15.out.cell 4
          have x5 := HBX15.out.cell 5
          have x6 := HBX15.out.cell 6
          have x7 := HBX15.out.cell 7
          have x8 := HBX15.out.cell 8
          have x9 := HBX15.out.cell 9
          have x10 := HBX15.out.cell 10
          have x11 := HBX15.out.cell 11
          simp at x0 x1 x2 x3 x4 x5 x6 x7 x8 x9 x10 x11
          go_wp2_with fail
          refine (HT.out.one _ _ _ _ _ (HW0.out.ext HE15.out) HV15.out HCX15.out).mono ?_
          rintro e w16 ⟨u, rfl, ⟨Az1, cz1, Az2, cz2, rfl, hq1, hq2⟩, hE16⟩
          have hV16 : VAt w16 (fun _ => True) (.agg #[U8 z.kind, .int .i64 z.n, .string z.s, .slice Az1 z.l.length cz1, .slice Az2 z.o.length cz2]) z := ⟨_, _, rfl, hq1.more EVal.ok fun _ _ _ => trivial, hq2.more EField.ok fun _ _ _ => trivial⟩
          have HV16 := hid hV16
          have HE16 := hid (HE15.out.ext hE16)
          replace HR15 := hid (HR15.out.keep hE16 id)
          replace HP15 := hid (HP15.out.ext hE16)
          replace HR16 := hid (HR16.out.keep hE16 id)
          replace HP16 := hid (HP16.out.ext hE16)
          replace HR17 := hid (HR17.out.keep hE16 id)
          replace HP17 := hid (HP17.out.ext hE16)
          clear hE16 hV16 hq1 hq2 HE15 HV15 HBV15 HBX15 HBY15 HBD15 HCX15 HCY15 HCD15 b0 b1 b2 b3 b4 x0 x1 x2 x3 x4 x5 x6 x7 x8 x9 x10 x11
          go_upto_region 19 with fail
          have hE17 : Ext w16 (w16.alloc (.cells #[U8 z.kind, .int .i64 z.n, .string z.s, .slice Az1 z.l.length cz1, .slice Az2 z.o.length cz2] TVAL)) := (Keep.refl _ _).alloc _
          have HR18 := hid (Blk.new w16 TVAL #[U8 z.kind, .int .i64 z.n, .string z.s, .slice Az1 z.l.length cz1, .slice Az2 z.o.length cz2])
          have HV17 := hid (HV16.out.ext hE17)
          have HE17 := hid (HE16.out.ext hE17)
          replace HR15 := hid (HR15.out.keep hE17 id)
          replace HP15 := hid (HP15.out.ext hE17)
          replace HR16 := hid (HR16.out.keep hE17 id)
          replace HP16 := hid (HP16.out.ext hE17)
          replace HR17 := hid (HR17.out.keep hE17 id)
          replace HP17 := hid (HP17.out.ext hE17)
          clear hE17 HE16 HV16
          change Code.wp _ _ _ _ (w16.alloc (.cells #[U8 z.kind, .int .i64 z.n, .string z.s, .slice Az1 z.l.length cz1, .slice Az2 z.o.length cz2] TVAL))
          generalize (w16.alloc (.cells #[U8 z.kind, .int .i64 z.n, .string z.s, .slice Az1 z.l.length cz1, .slice Az2 z.o.length cz2] TVAL)) = w17 at *
          obtain ⟨rc0, rc1, rc2, rc3, rc4⟩ := blk5 HR15.out
          obtain ⟨sc0, sc1, sc2, sc3, sc4⟩ := blk5 HR16.out
          obtain ⟨tc0, tc1, tc2, tc3, tc4⟩ := blk5 HR17.out
          obtain ⟨uc0, uc1, uc2, uc3, uc4⟩ := blk5 HR18.out
          go_wp2_with fail
          refine (same_eq _ z (Nat.le_refl _) _ _ _ _ _ HP15.out HV17.out).mono ?_
          rintro e w18 ⟨rfl, hEs⟩
          have HV18 := hid (HV17.out.ext hEs)
          have HE18 := hid (HE17.out.ext hEs)
          replace rc0 := (hEs.cell (lt_of_cell rc0) id).trans rc0
          replace rc1 := (hEs.cell (lt_of_cell rc1) id).trans rc1
          replace rc2 := (hEs.cell (lt_of_cell rc2) id).trans rc2
          replace rc3 := (hEs.cell (lt_of_cell rc3) id).trans rc3
          replace rc4 := (hEs.cell (lt_of_cell rc4) id).trans rc4
          replace sc0 := (hEs.cell (lt_of_cell sc0) id).trans sc0
          replace sc1 := (hEs.cell (lt_of_cell sc1) id).trans sc1
          replace sc2 := (hEs.cell (lt_of_cell sc2) id).trans sc2
          replace sc3 := (hEs.cell (lt_of_cell sc3) id).trans sc3
          replace sc4 := (hEs.cell (lt_of_cell sc4) id).trans sc4
          replace tc0 := (hEs.cell (lt_of_cell tc0) id).trans tc0
          replace tc1 := (hEs.cell (lt_of_cell tc1) id).trans tc1
          replace tc2 := (hEs.cell (lt_of_cell tc2) id).trans tc2
          replace tc3 := (hEs.cell (lt_of_cell tc3) id).trans tc3
          replace tc4 := (hEs.cell (lt_of_cell tc4) id).trans tc4
          replace uc0 := (hEs.cell (lt_of_cell uc0) id).trans uc0
          replace uc1 := (hEs.cell (lt_of_cell uc1) id).trans uc1
          replace uc2 := (hEs.cell (lt_of_cell uc2) id).trans uc2
          replace uc3 := (hEs.cell (lt_of_cell uc3) id).trans uc3
          replace uc4 := (hEs.cell (lt_of_cell uc4) id).trans uc4
          replace HP15 := hid (HP15.out.ext hEs)
          replace HP16 := hid (HP16.out.ext hEs)
          replace HP17 := hid (HP17.out.ext hEs)
          clear hEs HV17 HE17
          go_wp2_with fail
          refine (same_eq _ z (Nat.le_refl _) _ _ _ _ _ HP16.out HV18.out).mono ?_
          rintro e w19 ⟨rfl, hEs⟩
          have HV19 := hid (HV18.out.ext hEs)
          have HE19 := hid (HE18.out.ext hEs)
          replace rc0 := (hEs.cell (lt_of_cell rc0) id).trans rc0
          replace rc1 := (hEs.cell (lt_of_cell rc1) id).trans rc1
          replace rc2 := (hEs.cell (lt_of_cell rc2) id).trans rc2
          replace rc3 := (hEs.cell (lt_of_cell rc3) id).trans rc3
          replace rc4 := (hEs.cell (lt_of_cell rc4) id).trans rc4
          replace sc0 := (hEs.cell (lt_of_cell sc0) id).trans sc0
          replace sc1 := (hEs.cell (lt_of_cell sc1) id).trans sc1
          replace sc2 := (hEs.cell (lt_of_cell sc2) id).trans sc2
          replace sc3 := (hEs.cell (lt_of_cell sc3) id).trans sc3
          replace sc4 := (hEs.cell (lt_of_cell sc4) id).trans sc4
          replace tc0 := (hEs.cell (lt_of_cell tc0) id).trans tc0
          replace tc1 := (hEs.cell (lt_of_cell tc1) id).trans tc1
          replace tc2 := (hEs.cell (lt_of_cell tc2) id).trans tc2
          replace tc3 := (hEs.cell (lt_of_cell tc3) id).trans tc3
          replace tc4 := (hEs.cell (lt_of_cell tc4) id).trans tc4
          replace uc0 := (hEs.cell (lt_of_cell uc0) id).trans uc0
          replace uc1 := (hEs.cell (lt_of_cell uc1) id).trans uc1
          replace uc2 := (hEs.cell (lt_of_cell uc2) id).trans uc2
          replace uc3 := (hEs.cell (lt_of_cell uc3) id).trans uc3
          replace uc4 := (hEs.cell (lt_of_cell uc4) id).trans uc4
          replace HP15 := hid (HP15.out.ext hEs)
          replace HP16 := hid (HP16.out.ext hEs)
          replace HP17 := hid (HP17.out.ext hEs)
          clear hEs HV18 HE18
          go_wp2_with fail
          refine (same_eq _ z (Nat.le_refl _) _ _ _ _ _ HP17.out HV19.out).mono ?_
          rintro e w20 ⟨rfl, hEs⟩
          have HV20 := hid (HV19.out.ext hEs)
          have HE20 := hid (HE19.out.ext hEs)
          replace rc0 := (hEs.cell (lt_of_cell rc0) id).trans rc0
          replace rc1 := (hEs.cell (lt_of_cell rc1) id).trans rc1
          replace rc2 := (hEs.cell (lt_of_cell rc2) id).trans rc2
          replace rc3 := (hEs.cell (lt_of_cell rc3) id).trans rc3
          replace rc4 := (hEs.cell (lt_of_cell rc4) id).trans rc4
          replace sc0 := (hEs.cell (lt_of_cell sc0) id).trans sc0
          replace sc1 := (hEs.cell (lt_of_cell sc1) id).trans sc1
          replace sc2 := (hEs.cell (lt_of_cell sc2) id).trans sc2
          replace sc3 := (hEs.cell (lt_of_cell sc3) id).trans sc3
          replace sc4 := (hEs.cell (lt_of_cell sc4) id).trans sc4
          replace tc0 := (hEs.cell (lt_of_cell tc0) id).trans tc0
          replace tc1 := (hEs.cell (lt_of_cell tc1) id).trans tc1
          replace tc2 := (hEs.cell (lt_of_cell tc2) id).trans tc2
          replace tc3 := (hEs.cell (lt_of_cell tc3) id).trans tc3
          replace tc4 := (hEs.cell (lt_of_cell tc4) id).trans tc4
          replace uc0 := (hEs.cell (lt_of_cell uc0) id).trans uc0
          replace uc1 := (hEs.cell (lt_of_cell uc1) id).trans uc1
          replace uc2 := (hEs.cell (lt_of_cell uc2) id).trans uc2
          replace uc3 := (hEs.cell (lt_of_cell uc3) id).trans uc3
          replace uc4 := (hEs.cell (lt_of_cell uc4) id).trans uc4
          replace HP15 := hid (HP15.out.ext hEs)
          replace HP16 := hid (HP16.out.ext hEs)
          replace HP17 := hid (HP17.out.ext hEs)
          clear hEs HV19 HE19
          go_wp2
          go_ret
          exact ⟨rfl, HE20.out⟩
end Go.Proofs.YtioplgfopillnaaDoor
