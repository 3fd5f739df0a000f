/- RDR, SnapB, SnapN: laid together. -/
import Derived.Test.YtihaliffcobacaaGreatDoorSbB30
import Derived.Test.YtihaliffcobacaaGreatDoorSbB28
import Derived.Test.YtihaliffcobacaaGreatDoorSbB22
import Derived.Test.YtihaliffcobacaaGreatDoorSbB20
import Derived.Test.YtihaliffcobacaaGreatDoorSbB25
import Derived.Test.YtihaliffcobacaaGreatDoorSbB26
set_option linter.unusedSimpArgs false
set_option linter.unusedVariables false
set_option maxHeartbeats 25600000
set_option maxRecDepth 20000
namespace Go.Proofs.YtihaliffcobacaaGreatDoor
open Go.RowKit
theorem bytes_eq_iff (x y : ByteArray) : x.toList = y.toList ↔ x = y := by
 rw [ByteArray.toList_eq, ByteArray.toList_eq]
 constructor
 ·intro h
  cases x; cases y
  congr 1
  exact Array.toList_inj.1 h
 ·rintro rfl; rfl
theorem texts_ok (w : World) (S S2 : BS) (u v : Value) (xs ys : List ByteArray) (hu : Sl EStr w S u xs) (hv : Sl EStr w S2 v ys) :
  Calls Tryz.prog 43 #[u, v] w fun e w' => e = .returned (.bool (decide (xs = ys))) ∧ Ext w w' := by
 obtain ⟨A, c, rfl, hlc, hcm⟩ := hu.shape
 obtain ⟨A2, c2, rfl, hlc2, hcm2⟩ := hv.shape
 unfold maxLen at hcm hcm2
 by_cases hl : xs.length = ys.length
 ·rw [← hl] at hlc2 hv ⊢
  have HU := hid hu
  have HV := hid hv
  clear hu hv
  generalize hn : xs.length = n at *
  have HN := hid hn
  have HL := hid hl
  clear hn hl
  go_enter Tryz.func43, Tryz.ntmps43
  go_wp2_with fail
  go_loopw [5] (fun i wr => ∃ k : Nat, k ≤ n ∧ i = .int .i64 k ∧ xs.take k = ys.take k ∧ Ext w wr) (fun i _ => n - (intOf i).toNat)
  case atStart => exact ⟨0, by omega, rfl, rfl, Keep.refl _ _⟩
  case round =>
   obtain ⟨k, hk, rfl, htk, hE⟩ := hrel
   have HT := hid htk
   have HE := hid hE
   clear htk
   by_cases hlt : k < n
   ·have hk1 : k < xs.length := by rw [HN.out]; exact hlt
    have hk2 : k < ys.length := by rw [← HL.out]; exact hlt
    obtain ⟨b1, o1, cc1, rfl, _, _, hr1, hc1⟩ := (HU.out.ext EStr.ok hE).at_ EStr.ok hk1
    obtain ⟨b2, o2, cc2, rfl, _, _, hr2, hc2⟩ := (HV.out.ext EStr.ok hE).at_ EStr.ok hk2
    have hr1 : cc1 = [.string xs[k]] := hr1
    have hr2 : cc2 = [.string ys[k]] := hr2
    subst hr1 hr2
    have p1 := hc1 0 _ rfl
    have p2 := hc2 0 _ rfl
    have ez : EStr.size = 1 := rfl
    simp only [ez, Nat.add_zero, Nat.mul_one] at p1 p2
    have hkX : (k : Int) < n := by omega
    have HX := hid (show xs.take (k + 1) = xs.take k ++ [xs[k]] from List.take_succ_eq_append_getElem hk1)
    have HY := hid (show ys.take (k + 1) = ys.take k ++ [ys[k]] from List.take_succ_eq_append_getElem hk2)
    have hX1 := hid (show xs[k]? = some xs[k] from List.getElem?_eq_getElem hk1)
    have hY1 := hid (show ys[k]? = some ys[k] from List.getElem?_eq_getElem hk2)
    clear hc1 hc2 ez hE
    generalize xs[k] = x at *
    generalize ys[k] = y at *
    by_cases hxy : x = y
    ·have hb : (x.toList == y.toList) = true := by rw [hxy]; simp
     have HXY := hid hxy
     clear hxy
     go_wp2_with fail
     refine wp_region_grow (specOf []) (fun w' => Ext wr w') stable_nil (stableC_ext _) (by kernel_rfl) (by kernel_rfl) (Keep.drew (Keep.refl _ _)) ?_
     iterate 9
      (try simp only [Act.put, sqa, sqb, sqc])
      refine grow_run rfl rfl rfl ?_
      apply Exists.intro
      refine ⟨fun w' hC hK => ?_, ?_⟩
      ·have p1 := sqw hC p1
       have p2 := sqw hC p2
       go_simp
       rfl
     refine grow_nil fun w' hC _ => ?_
     have HE2 := hid (HE.out.ext hC)
     have HTT := hid (show xs.take (k + 1) = ys.take (k + 1) by rw [HX.out, HY.out, HT.out, HXY.out])
     clear hC p1 p2
     go_wp2
     exact ⟨⟨k + 1, by omega, by go_num, HTT.out, HE2.out⟩, by simp [intOf]; omega⟩
    ·have hb : (x.toList == y.toList) = false := by
      rw [beq_eq_false_iff_ne]
      exact fun h => hxy ((bytes_eq_iff x y).1 h)
     have HD := hid (show decide (xs = ys) = false by
      rw [decide_eq_false_iff_not]
      rintro rfl
      have h1 := hX1.out
      rw [hY1.out] at h1
      injection h1 with h1
      exact hxy h1.symm)
     clear hxy
     go_wp2_with fail
     refine wp_region_grow (specOf []) (fun w' => Ext wr w') stable_nil (stableC_ext _) (by kernel_rfl) (by kernel_rfl) (Keep.drew (Keep.refl _ _)) ?_
     iterate 9
      (try simp only [Act.put, sqa, sqb, sqc])
      refine grow_run rfl rfl rfl ?_
      apply Exists.intro
      refine ⟨fun w' hC hK => ?_, ?_⟩
      ·have p1 := sqw hC p1
       have p2 := sqw hC p2
       go_simp
       rfl
     refine grow_nil fun w' hC _ => ?_
     have HE2 := hid (HE.out.ext hC)
     clear hC p1 p2
     go_wp2
     go_ret
     exact ⟨by rw [HD.out]; rfl, HE2.out⟩
   ·obtain rfl : k = n := by omega
    have hkX : ¬ (k : Int) < k := by omega
    have HD := hid (show decide (xs = ys) = true by
     have h := HT.out
     rw [List.take_of_length_le (by rw [HN.out]; omega), List.take_of_length_le (by rw [← HL.out]; omega)] at h
     simpa using h)
    go_wp2
    go_ret
    exact ⟨by rw [HD.out]; rfl, HE.out⟩
 ·have HD := hid (show decide (xs = ys) = false by simp; intro h; exact hl (by rw [h]))
  have hX : ¬ (xs.length : Int) = ys.length := by omega
  clear hu hv
  generalize xs.length = n at *
  generalize ys.length = m at *
  go_enter Tryz.func43, Tryz.ntmps43
  go_wp2
  go_ret
  exact ⟨by rw [HD.out]; rfl, Keep.refl _ _⟩
def AscC (cs : List DC) : Prop := cs.Pairwise fun x y => bytesBefore x.name y.name = true
theorem before_lt : ∀ {a b : List UInt8}, bytesBefore a b = true → a < b
 | [], [], h => by cases h
 | [], _ :: _, _ => List.nil_lt_cons _ _
 | _ :: _, [], h => by cases h
 | x :: a, y :: b, h => by
  simp only [bytesBefore, Bool.or_eq_true, Bool.and_eq_true, decide_eq_true_eq, beq_iff_eq] at h
  rw [List.cons_lt_cons_iff]
  rcases h with h | ⟨rfl, h⟩
  ·exact .inl h
  ·exact .inr ⟨rfl, before_lt h⟩
theorem before_tr : ∀ {a b c : List UInt8}, bytesBefore a b = true → bytesBefore b c = true → bytesBefore a c = true
 | [], [], _, h, _ => by cases h
 | _ :: _, [], _, h, _ => by cases h
 | _, _ :: _, [], _, h => by cases h
 | [], _ :: _, _ :: _, _, _ => rfl
 | x :: a, y :: b, z :: c, h1, h2 => by
  simp only [bytesBefore, Bool.or_eq_true, Bool.and_eq_true, decide_eq_true_eq, beq_iff_eq] at h1 h2 ⊢
  rcases h1 with h1 | ⟨rfl, h1⟩
  ·left
   rcases h2 with h2 | ⟨rfl, _⟩
   ·rw [UInt8.lt_iff_toNat_lt] at *; omega
   ·exact h1
  ·rcases h2 with h2 | ⟨rfl, h2⟩
   ·exact .inl h2
   ·exact .inr ⟨rfl, before_tr h1 h2⟩
theorem before_le {a b : List UInt8} (h : bytesBefore a b = true) : decide (a ≤ b) = true := by
 rw [decide_eq_true_eq]
 exact Std.le_of_lt (before_lt h)
theorem AscC.names {cs : List DC} (h : AscC cs) : namesC cs = texC cs := by
 unfold namesC texC
 rw [List.mergeSort_of_pairwise, List.map_map]
 ·rfl
 ·rw [List.pairwise_map]
  exact List.Pairwise.imp (fun h => before_le h) h
theorem before_ne {a b : List UInt8} (h : bytesBefore a b = true) : a ≠ b := by
 rintro rfl
 have := before_asymm h
 rw [h] at this
 cases this
theorem AscC.pw {cs : List DC} (h : AscC cs) : cs.Pairwise fun x y => x.name ≠ y.name := List.Pairwise.imp (fun h => before_ne h) h
theorem AscC.map {cs : List DC} (h : AscC cs) {g : DC → DC} (hg : ∀ c, (g c).name = c.name) : AscC (cs.map g) := by
 unfold AscC
 rw [List.pairwise_map]
 exact List.Pairwise.imp (fun {a b} h => by rw [hg, hg]; exact h) h
theorem AscC.upd {cs : List DC} (h : AscC cs) {g : DC → DC} (hg : ∀ c, (g c).name = c.name) (nm : List UInt8) : AscC (updC g cs nm) := h.map fun c => by split <;> simp [hg]
theorem AscC.del {cs : List DC} (h : AscC cs) (nm : List UInt8) : AscC (delC cs nm) := List.Pairwise.filter _ h
theorem AscC.ins {x : DC} : ∀ {cs : List DC}, AscC cs → (∀ c ∈ cs, c.name ≠ x.name) → AscC (insC x cs)
 | [], _, _ => List.pairwise_singleton _ _
 | y :: r, h, hn => by
  obtain ⟨h1, h2⟩ := List.pairwise_cons.1 h
  rw [insC]
  split
  ·rename_i hb
   refine List.pairwise_cons.2 ⟨fun z hz => ?_, h⟩
   rcases List.mem_cons.1 hz with rfl | hz
   ·exact hb
   ·exact before_tr hb (h1 z hz)
  ·rename_i hb
   refine List.pairwise_cons.2 ⟨fun z hz => ?_, AscC.ins h2 fun c hc => hn c (by simp [hc])⟩
   rcases mem_insC.1 hz with rfl | hz
   ·exact before_other (fun e => hn y (by simp) e.symm) (by simpa using hb)
   ·exact h1 z hz
def LastC (cs : List DC) : Prop := ∀ c ∈ cs, c.l ≤ c.b.length
theorem LastC.map {cs : List DC} (h : LastC cs) {g : DC → DC} (hg : ∀ c, c.l ≤ c.b.length → (g c).l ≤ (g c).b.length) : LastC (cs.map g) := by
 intro c hc
 obtain ⟨x, hx, rfl⟩ := List.mem_map.1 hc
 exact hg x (h x hx)
theorem LastC.upd {cs : List DC} (h : LastC cs) {g : DC → DC} (hg : ∀ c, c.l ≤ c.b.length → (g c).l ≤ (g c).b.length) (nm : List UInt8) : LastC (updC g cs nm) := h.map fun c hc => by
 by_cases e : c.name = nm
 ·rw [if_pos e]; exact hg c hc
 ·rw [if_neg e]; exact hc
def GoodC (cs : List DC) : Prop := AscC cs ∧ LastC cs
theorem hasC_none {cs : List DC} {nm : List UInt8} (h : hasC cs nm = false) : ∀ c ∈ cs, c.name ≠ nm := by
 unfold hasC at h
 rw [List.any_eq_false] at h
 exact fun c hc e => h c hc (by simpa using e)
theorem GoodC.app {cs : List DC} (h : GoodC cs) (s : DSt) (nm b : List UInt8) : GoodC (appR cs s nm b).2 := by
 unfold appR
 split
 ·exact h
 ·split
  ·exact ⟨h.1.upd (g := moreC b) (fun _ => rfl) _, h.2.upd (g := moreC b) (fun c hc => by show c.l ≤ (c.b ++ b).length; rw [List.length_append]; omega) _⟩
  ·rename_i hh
   split
   ·refine ⟨h.1.ins (hasC_none (by simpa using hh)), fun c hc => ?_⟩
    rcases mem_insC.1 hc with rfl | hc
    ·exact Nat.zero_le _
    ·exact h.2 c hc
   ·exact h
theorem GoodC.sync {cs : List DC} (h : GoodC cs) (s : DSt) (nm : List UInt8) : GoodC (syncR cs s nm).2 := by
 unfold syncR
 split
 ·exact h
 ·split
  ·exact ⟨h.1.upd (g := syncC) (fun _ => rfl) _, h.2.upd (g := syncC) (fun c hc => Nat.le_refl _) _⟩
  ·exact h
theorem GoodC.cut {cs : List DC} (h : GoodC cs) (s : DSt) (nm : List UInt8) (n : Int) : GoodC (cutR cs s nm n).2 := by
 unfold cutR
 split
 ·exact h
 ·split
  ·exact h
  ·split
   ·exact h
   ·exact ⟨h.1.upd (g := cutC n.toNat) (fun _ => rfl) _, h.2.upd (g := cutC n.toNat) (fun c hc => by show min c.l n.toNat ≤ (c.b.take n.toNat).length; rw [List.length_take]; omega) _⟩
theorem GoodC.drop {cs : List DC} (h : GoodC cs) (s : DSt) (nm : List UInt8) : GoodC (dropR cs s nm).2 := by
 unfold dropR
 split
 ·exact h
 ·split
  ·exact ⟨h.1.del _, fun c hc => h.2 c (List.mem_filter.1 hc).1⟩
  ·exact h
theorem GoodC.nil : GoodC [] := ⟨List.Pairwise.nil, fun _ h => by cases h⟩
structure Twin (w0 w : World) (B1 B2 : BS) (d r : Nat) (cs : List DC) (s : DSt) : Prop where
 disk : DskW w0 w B1 d cs s
 ref : RdIs w B2 r cs s
 low : ∀ k, B2 k → w0.heap.size ≤ k ∧ k < w.heap.size
 good : GoodC cs
 apart : ∀ k, B1 k → ¬ B2 k
section
variable {w0 w w1 w2 : World} {B1 B2 : BS} {d r : Nat} {cs cs' : List DC} {s s' : DSt}
theorem Twin.mid (h : Twin w0 w B1 B2 d r cs s) (hk : Keep B1 w w1) : RdIs w1 B2 r cs s := h.ref.keep hk fun k hk e => h.apart k e hk
theorem Twin.more (h : Twin w0 w B1 B2 d r cs s) (he : Ext w w1) : Twin w0 w1 B1 B2 d r cs s :=
 ⟨h.disk.more he, h.ref.ext he, fun k hk => ⟨(h.low k hk).1, Nat.lt_of_lt_of_le (h.low k hk).2 he.size⟩, h.good, h.apart⟩
theorem Twin.two (h : Twin w0 w B1 B2 d r cs s) (hk1 : Keep B1 w w1) (hd : DiskIs w1 (moreB B1 w w1) d cs' s') (hk2 : Keep B2 w1 w2) (hr : RdIs w2 (moreB B2 w1 w2) r cs' s') (hg : GoodC cs') : Twin w0 w2 (moreB B1 w w1) (moreB B2 w1 w2) d r cs' s' := by
 have hs1 := hk1.size
 have hs2 := hk2.size
 refine ⟨(h.disk.grow hk1 hd).other hk2 (fun k hb e => ?_) fun k hk => (h.low k hk).1, hr, fun k hk => ?_, hg, fun k h1 h2 => ?_⟩
 ·have h2 := (h.low k e).2
  rcases hb with hb | hb
  ·exact h.apart k hb e
  ·omega
 ·have h0 := h.disk.ext.size
  rcases hk with hk | hk
  ·have := h.low k hk; exact ⟨this.1, by omega⟩
  ·exact ⟨by omega, hk.2⟩
 ·rcases h1 with h1 | h1
  ·rcases h2 with h2 | h2
   ·exact h.apart k h1 h2
   ·have := (h.disk.low k h1).2; omega
  ·rcases h2 with h2 | h2
   ·have := (h.low k h2).2; omega
   ·omega
end
def SaveIs (w : World) (B : BS) (d : Nat) (cs : List DC) (s : DSt) (nm : ByteArray) (sh : Sh) (e : Ending) (w' : World) : Prop :=
 e = .returned (.int .u16 (saveR cs s nm sh).1) ∧ DiskIs w' (moreB B w w') d (saveR cs s nm sh).2.1 (saveR cs s nm sh).2.2 ∧ Keep B w w'
theorem SaveIs.no {w w' : World} {B : BS} {d : Nat} {cs : List DC} {s : DSt} {nm : ByteArray} {sh : Sh} {c : Int} (h : saveE nm sh = c) (hc : c ≠ 0) (hd : DiskIs w B d cs s) (hE : Ext w w') : SaveIs w B d cs s nm sh (.returned (.int .u16 c)) w' := by
 have hr : saveR cs s nm sh = (c, cs, s) := by unfold saveR; rw [h, if_pos hc]
 unfold SaveIs
 rw [hr]
 exact ⟨rfl, (hd.ext hE).more fun k _ h => .inl h, hE.mono fun _ _ x => x.elim⟩
theorem shC_is (s : Sh) : shC s = 0 ∨ shC s = 1 ∨ shC s = 3 := by
 unfold shC valC
 by_cases h1 : s.there = true
 ·rw [if_pos h1]
  by_cases h2 : lightB s.v = true
  ·rw [if_pos h2]
   by_cases h3 : (encV s.v).length > 60000
   ·rw [if_pos h3]; exact .inr (.inr rfl)
   ·rw [if_neg h3]; exact .inl rfl
  ·rw [if_neg h2]; exact .inr (.inl rfl)
 ·rw [if_neg h1]; exact .inl rfl
theorem app_is (cs : List DC) (s : DSt) (f b : List UInt8) : (appR cs s f b).1 = 0 ∨ (appR cs s f b).1 = 130 := by
 unfold appR
 split
 ·exact .inr rfl
 ·split
  ·exact .inl rfl
  ·split
   ·exact .inl rfl
   ·exact .inr rfl
set_option maxRecDepth 100000 in
theorem save_ok (w0 : World) (hva : ValAny w0) (w : World) (B : BS) (d : Nat) (cs : List DC) (s : DSt) (nm : ByteArray) (sh : Sh) (hw : Wide sh.v) (h0 : Ext w0 w) (hd : DiskIs w B d cs s) (hz : nm.size ≤ 140737488355328) (S : BS) (u : Value) (hu : ShVal w S u sh) :
  Calls Tryz.prog 10 #[.pointer (some ⟨d, 0, none⟩), .string nm, u] w (SaveIs w B d cs s nm sh) := by
 obtain ⟨sn, th, sv⟩ := sh
 simp only at hw
 obtain ⟨a0, a1, a2, a3, a4, rfl, hv⟩ := hu
 simp only at hv ⊢
 obtain ⟨lv, ov, e1, hl, ho⟩ := hv
 obtain ⟨A1, c1, rfl, _⟩ := hl.shape
 obtain ⟨A2, c2, rfl, _⟩ := ho.shape
 simp only [Value.agg.injEq, Array.mk.injEq, List.cons.injEq, and_true] at e1
 obtain ⟨rfl, rfl, rfl, rfl, rfl⟩ := e1
 have HVA := hid hva
 have HWI := hid hw
 have H0 := hid h0
 have HD := hid hd
 have HV := hid (show VAt w S (.agg #[U8 sv.kind, .int .i64 sv.n, .string sv.s, .slice A1 sv.l.length c1, .slice A2 sv.o.length c2]) sv from ⟨_, _, rfl, hl, ho⟩)
 clear hva hw h0 hl ho hd
 obtain ⟨W0, hW0⟩ : ∃ W0, w.alloc (.cells #[.int .i64 sn, .bool th, U8 sv.kind, .int .i64 sv.n, .string sv.s, .slice A1 sv.l.length c1, .slice A2 sv.o.length c2] TSHOT) = W0 := ⟨_, rfl⟩
 have hE0 : Ext w W0 := by rw [← hW0]; exact (Keep.refl _ _).alloc _
 have hb0 : Blk W0 w.heap.size TSHOT #[.int .i64 sn, .bool th, U8 sv.kind, .int .i64 sv.n, .string sv.s, .slice A1 sv.l.length c1, .slice A2 sv.o.length c2] := by rw [← hW0]; exact Blk.new _ _ _
 have HE0 := hid hE0
 have HB0 := hid hb0
 have HW0 := hid hW0
 clear hW0 hE0 hb0
 by_cases hne : nm = ⟨#[]⟩
 ·subst hne
  have HR := hid (SaveIs.no (w := w) (w' := W0) (B := B) (d := d) (cs := cs) (s := s) (nm := ⟨#[]⟩) (sh := ⟨sn, th, sv⟩) (c := 150) (if_pos (Or.inl rfl)) (by decide) HD.out HE0.out)
  go_enter Tryz.func10, Tryz.ntmps10
  go_wp2
  change bodyPost _ _ _ _ _ (w.alloc (.cells #[.int .i64 sn, .bool th, U8 sv.kind, .int .i64 sv.n, .string sv.s, .slice A1 sv.l.length c1, .slice A2 sv.o.length c2] TSHOT))
  rw [HW0.out]
  go_ret
  exact HR.out
 have hneT : nm.toList.isEmpty = false := by
  cases h : nm.toList.isEmpty with
  | true => exact absurd (ba_empty h) hne
  | false => rfl
 have HN0 := hid (show nm.size ≠ 0 from fun h => hne (by obtain ⟨a⟩ := nm; congr 1; exact Array.eq_empty_of_size_eq_zero h))
 clear hne
 by_cases h20 : (20 : Int) < nm.size
 ·have HR := hid (SaveIs.no (w := w) (w' := W0) (B := B) (d := d) (cs := cs) (s := s) (nm := nm) (sh := ⟨sn, th, sv⟩) (c := 150) (if_pos (Or.inr (Or.inl (show 20 < nm.size by omega)))) (by decide) HD.out HE0.out)
  go_enter Tryz.func10, Tryz.ntmps10
  go_wp2
  change bodyPost _ _ _ _ _ (w.alloc (.cells #[.int .i64 sn, .bool th, U8 sv.kind, .int .i64 sv.n, .string sv.s, .slice A1 sv.l.length c1, .slice A2 sv.o.length c2] TSHOT))
  rw [HW0.out]
  go_ret
  exact HR.out
 by_cases hs0 : sn < 0
 ·have HR := hid (SaveIs.no (w := w) (w' := W0) (B := B) (d := d) (cs := cs) (s := s) (nm := nm) (sh := ⟨sn, th, sv⟩) (c := 150) (if_pos (Or.inr (Or.inr (Or.inl hs0)))) (by decide) HD.out HE0.out)
  go_enter Tryz.func10, Tryz.ntmps10
  go_wp2
  change bodyPost _ _ _ _ _ (w.alloc (.cells #[.int .i64 sn, .bool th, U8 sv.kind, .int .i64 sv.n, .string sv.s, .slice A1 sv.l.length c1, .slice A2 sv.o.length c2] TSHOT))
  rw [HW0.out]
  go_ret
  exact HR.out
 by_cases hs5 : 5000 < sn
 ·have HR := hid (SaveIs.no (w := w) (w' := W0) (B := B) (d := d) (cs := cs) (s := s) (nm := nm) (sh := ⟨sn, th, sv⟩) (c := 150) (if_pos (Or.inr (Or.inr (Or.inr hs5)))) (by decide) HD.out HE0.out)
  go_enter Tryz.func10, Tryz.ntmps10
  go_wp2
  change bodyPost _ _ _ _ _ (w.alloc (.cells #[.int .i64 sn, .bool th, U8 sv.kind, .int .i64 sv.n, .string sv.s, .slice A1 sv.l.length c1, .slice A2 sv.o.length c2] TSHOT))
  rw [HW0.out]
  go_ret
  exact HR.out
 have HE1 := hid (show ¬ (nm.size = 0 ∨ 20 < nm.size ∨ sn < 0 ∨ 5000 < sn) from by have := HN0.out; omega)
 cases hth : th with
 | false =>
  subst hth
  have hzv : VAt W0 (fun _ => True) (.agg #[.int .u8 0, .int .i64 0, .string ⟨#[]⟩, .slice none 0 0, .slice none 0 0]) zV := ⟨_, _, rfl, Sl.nil _ _, Sl.nil _ _⟩
  have HSA := hid (same_any sv.size sv (Nat.le_refl _) zV (isZ sv) (isZ_iff sv) _ _ S (fun _ => True) W0 (HV.out.ext HE0.out) hzv)
  clear hzv
  go_enter Tryz.func10, Tryz.ntmps10
  go_wp2_with fail
  change Calls _ _ _ (w.alloc (.cells #[.int .i64 sn, .bool false, U8 sv.kind, .int .i64 sv.n, .string sv.s, .slice A1 sv.l.length c1, .slice A2 sv.o.length c2] TSHOT)) _
  rw [HW0.out]
  refine HSA.out.mono ?_
  rintro e wq ⟨rfl, hEq⟩
  have HEX := hid (HE0.out.ext hEq)
  have hbq := HB0.out.keep hEq id
  have x0 := hbq.cell 0
  have x1 := hbq.cell 1
  have x2 := hbq.cell 2
  have x3 := hbq.cell 3
  have x4 := hbq.cell 4
  have x5 := hbq.cell 5
  have x6 := hbq.cell 6
  simp only [List.getElem?_toArray, List.getElem?_cons_succ, List.getElem?_cons_zero] at x0 x1 x2 x3 x4 x5 x6
  clear hEq hbq
  obtain ⟨zb, hzb⟩ : ∃ zb, isZ sv = zb := ⟨_, rfl⟩
  have HZB := hid hzb
  rw [hzb]
  clear hzb
  cases zb with
  | false =>
   have HR := hid (show SaveIs w B d cs s nm ⟨sn, false, sv⟩ (.returned (.int .u16 150)) wq from SaveIs.no (show saveE nm ⟨sn, false, sv⟩ = 150 from by
    unfold saveE
    rw [if_neg HE1.out, if_pos ⟨rfl, HZB.out⟩]) (by decide) HD.out HEX.out)
   go_wp2
   go_ret
   exact HR.out
  | true =>
  go_wp2_with fail
  change Calls _ _ _ wq _
  rw [(show wq = wq from rfl)]
  have HZ20 := hid (show nm.size ≤ 20 by omega)
  clear hz hneT
  have HE2 := hid (show ¬ ((⟨sn, false, sv⟩ : Sh).there = false ∧ isZ (⟨sn, false, sv⟩ : Sh).v = false) from fun h => absurd h.2 (by rw [show isZ (⟨sn, false, sv⟩ : Sh).v = isZ sv from rfl, HZB.out]; decide))
  refine (shb_ok w0 HVA.out ⟨sn, false, sv⟩ hs0 hs5 HWI.out wq (H0.out.ext HEX.out) S _ ⟨_, _, _, _, _, rfl, HV.out.ext HEX.out⟩).mono ?_
  rintro e w1 ⟨b1, rfl, hb1, hE1⟩
  have HBB := hid hb1
  have HEB := hid (HEX.out.ext hE1)
  obtain ⟨Ab, cb, rfl, _⟩ := hb1.shape
  obtain ⟨bs, hbs⟩ : ∃ bs, shB ⟨sn, false, sv⟩ = bs := ⟨_, rfl⟩
  have HBS := hid hbs
  rw [hbs] at HBB ⊢
  clear hb1 hE1 hbs
  have HD1 := hid (HD.out.ext HEB.out)
  rcases shC_is ⟨sn, false, sv⟩ with hC | hC | hC
  ·rw [hC]
   have HC := hid hC
   clear hC
   go_wp2_with fail
   by_cases hl : bs.length ≤ 60000
   ·refine (wrap_ok _ bs _ w1 HBB.out hl).mono ?_
    rintro e w2 ⟨v2, rfl, ho2, hE2⟩
    have HO2 := hid (ho2.sl EU8.ok)
    have HD2 := hid (HD1.out.ext hE2)
    have HEC := hid (HEB.out.ext hE2)
    have HS0 := hid (show saveE nm ⟨sn, false, sv⟩ = 0 from by
     unfold saveE
     rw [if_neg HE1.out, if_neg (show ¬ ((⟨sn, false, sv⟩ : Sh).there = false ∧ isZ (⟨sn, false, sv⟩ : Sh).v = false) from by have := HE2.out; simpa using this), HC.out, if_neg (by decide), HBS.out, if_neg (by omega)])
    obtain ⟨A2', c2', rfl, _, _⟩ := ho2.shape
    clear ho2 hE2
    go_wp2_with fail
    refine (disk_append w2 B d cs s (fileT nm) _ (frm bs) _ HD2.out HO2.out (by unfold fileT; rw [ByteArray.size_append]; show nm.size + 5 ≤ maxLen; unfold maxLen; have := HZ20.out; omega)).mono ?_
    rintro e w3 ⟨he, hd3, hk3⟩
    have hsr : saveR cs s nm ⟨sn, false, sv⟩ = if (appR cs s (byt (fileT nm)) (frm bs)).1 ≠ 0 then ((appR cs s (byt (fileT nm)) (frm bs)).1, (appR cs s (byt (fileT nm)) (frm bs)).2, { s with left := leftC s.left })
     else ((syncR (appR cs s (byt (fileT nm)) (frm bs)).2 { s with left := leftC s.left } (byt (fileT nm))).1, (syncR (appR cs s (byt (fileT nm)) (frm bs)).2 { s with left := leftC s.left } (byt (fileT nm))).2, { s with left := leftC (leftC s.left) }) := by
     unfold saveR; rw [HS0.out, if_neg (by decide), HBS.out]
    have hkw : Keep B w w3 := (HEC.out.mono fun _ _ x => x.elim).trans hk3 fun _ _ x => x
    have HKW := hid hkw
    have HSR := hid hsr
    rcases app_is cs s (byt (fileT nm)) (frm bs) with ha | ha
    ·rw [show (fileT nm).data.toList = byt (fileT nm) from rfl, ha] at he
     subst he
     have HD3 := hid hd3
     clear hd3 hk3 hkw hsr
     go_wp2_with fail
     refine (disk_sync w3 _ d _ _ (fileT nm) HD3.out (by unfold fileT; rw [ByteArray.size_append]; show nm.size + 5 ≤ maxLen; unfold maxLen; have := HZ20.out; omega)).mono ?_
     rintro e w4 ⟨rfl, hd4, hk4⟩
     have HR := hid (show SaveIs w B d cs s nm ⟨sn, false, sv⟩ (.returned (.int .u16 (syncR (appR cs s (byt (fileT nm)) (frm bs)).2 { s with left := leftC s.left } (byt (fileT nm))).1)) w4 from by
      unfold SaveIs
      rw [HSR.out, if_neg (by rw [ha]; decide)]
      refine ⟨rfl, hd4.more fun k hk h => ?_, HKW.out.trans hk4 fun k hk h => ?_⟩
      ·rcases h with h | h
       ·exact .inl h
       ·have := HEC.out.size; have := hk4.size; exact .inr ⟨by omega, by omega⟩
      ·rcases h with h | h
       ·exact h
       ·have := HEC.out.size; omega)
     clear hd4 hk4
     go_wp2
     go_ret
     exact HR.out
    ·rw [show (fileT nm).data.toList = byt (fileT nm) from rfl, ha] at he
     subst he
     have HR := hid (show SaveIs w B d cs s nm ⟨sn, false, sv⟩ (.returned (.int .u16 130)) w3 from by
      unfold SaveIs
      rw [HSR.out, if_pos (by rw [ha]; decide)]
      refine ⟨by rw [ha], hd3.more fun k hk h => ?_, HKW.out⟩
      rcases h with h | h
      ·exact .inl h
      ·have := HEC.out.size; exact .inr ⟨by omega, by omega⟩)
     clear hd3 hk3 hkw hsr
     go_wp2
     go_ret
     exact HR.out
   ·refine (wrap_long _ bs _ w1 HBB.out (by omega)).mono ?_
    rintro e w2 ⟨rfl, rfl⟩
    have HR := hid (show SaveIs w B d cs s nm ⟨sn, false, sv⟩ (.returned (.int .u16 3)) w1 from SaveIs.no (show saveE nm ⟨sn, false, sv⟩ = 3 from by
     unfold saveE
     rw [if_neg HE1.out, if_neg (show ¬ ((⟨sn, false, sv⟩ : Sh).there = false ∧ isZ (⟨sn, false, sv⟩ : Sh).v = false) from by have := HE2.out; simpa using this), HC.out, if_neg (by decide), HBS.out, if_pos (by omega)]) (by decide) HD.out HEB.out)
    go_wp2
    go_ret
    exact HR.out
  ·rw [hC]
   have HR := hid (show SaveIs w B d cs s nm ⟨sn, false, sv⟩ (.returned (.int .u16 1)) w1 from SaveIs.no (by unfold saveE; rw [if_neg HE1.out, if_neg (show ¬ ((⟨sn, false, sv⟩ : Sh).there = false ∧ isZ (⟨sn, false, sv⟩ : Sh).v = false) from by have := HE2.out; simpa using this), hC, if_pos (by decide)]) (by decide) HD.out HEB.out)
   clear hC
   go_wp2
   go_ret
   exact HR.out
  ·rw [hC]
   have HR := hid (show SaveIs w B d cs s nm ⟨sn, false, sv⟩ (.returned (.int .u16 3)) w1 from SaveIs.no (by unfold saveE; rw [if_neg HE1.out, if_neg (show ¬ ((⟨sn, false, sv⟩ : Sh).there = false ∧ isZ (⟨sn, false, sv⟩ : Sh).v = false) from by have := HE2.out; simpa using this), hC, if_pos (by decide)]) (by decide) HD.out HEB.out)
   clear hC
   go_wp2
   go_ret
   exact HR.out
 | true =>
  subst hth
  go_enter Tryz.func10, Tryz.ntmps10
  go_wp2_with fail
  have HEX := HE0
  change Calls _ _ _ (w.alloc (.cells #[.int .i64 sn, .bool true, U8 sv.kind, .int .i64 sv.n, .string sv.s, .slice A1 sv.l.length c1, .slice A2 sv.o.length c2] TSHOT)) _
  rw [HW0.out]
  have HZ20 := hid (show nm.size ≤ 20 by omega)
  clear hz hneT
  have HE2 := hid (show ¬ ((⟨sn, true, sv⟩ : Sh).there = false ∧ isZ (⟨sn, true, sv⟩ : Sh).v = false) from fun h => absurd h.1 (by simp))
  refine (shb_ok w0 HVA.out ⟨sn, true, sv⟩ hs0 hs5 HWI.out W0 (H0.out.ext HEX.out) S _ ⟨_, _, _, _, _, rfl, HV.out.ext HEX.out⟩).mono ?_
  rintro e w1 ⟨b1, rfl, hb1, hE1⟩
  have HBB := hid hb1
  have HEB := hid (HEX.out.ext hE1)
  obtain ⟨Ab, cb, rfl, _⟩ := hb1.shape
  obtain ⟨bs, hbs⟩ : ∃ bs, shB ⟨sn, true, sv⟩ = bs := ⟨_, rfl⟩
  have HBS := hid hbs
  rw [hbs] at HBB ⊢
  clear hb1 hE1 hbs
  have HD1 := hid (HD.out.ext HEB.out)
  rcases shC_is ⟨sn, true, sv⟩ with hC | hC | hC
  ·rw [hC]
   have HC := hid hC
   clear hC
   go_wp2_with fail
   by_cases hl : bs.length ≤ 60000
   ·refine (wrap_ok _ bs _ w1 HBB.out hl).mono ?_
    rintro e w2 ⟨v2, rfl, ho2, hE2⟩
    have HO2 := hid (ho2.sl EU8.ok)
    have HD2 := hid (HD1.out.ext hE2)
    have HEC := hid (HEB.out.ext hE2)
    have HS0 := hid (show saveE nm ⟨sn, true, sv⟩ = 0 from by
     unfold saveE
     rw [if_neg HE1.out, if_neg (show ¬ ((⟨sn, true, sv⟩ : Sh).there = false ∧ isZ (⟨sn, true, sv⟩ : Sh).v = false) from by simp), HC.out, if_neg (by decide), HBS.out, if_neg (by omega)])
    obtain ⟨A2', c2', rfl, _, _⟩ := ho2.shape
    clear ho2 hE2
    go_wp2_with fail
    refine (disk_append w2 B d cs s (fileT nm) _ (frm bs) _ HD2.out HO2.out (by unfold fileT; rw [ByteArray.size_append]; show nm.size + 5 ≤ maxLen; unfold maxLen; have := HZ20.out; omega)).mono ?_
    rintro e w3 ⟨he, hd3, hk3⟩
    have hsr : saveR cs s nm ⟨sn, true, sv⟩ = if (appR cs s (byt (fileT nm)) (frm bs)).1 ≠ 0 then ((appR cs s (byt (fileT nm)) (frm bs)).1, (appR cs s (byt (fileT nm)) (frm bs)).2, { s with left := leftC s.left })
     else ((syncR (appR cs s (byt (fileT nm)) (frm bs)).2 { s with left := leftC s.left } (byt (fileT nm))).1, (syncR (appR cs s (byt (fileT nm)) (frm bs)).2 { s with left := leftC s.left } (byt (fileT nm))).2, { s with left := leftC (leftC s.left) }) := by
     unfold saveR; rw [HS0.out, if_neg (by decide), HBS.out]
    have hkw : Keep B w w3 := (HEC.out.mono fun _ _ x => x.elim).trans hk3 fun _ _ x => x
    have HKW := hid hkw
    have HSR := hid hsr
    rcases app_is cs s (byt (fileT nm)) (frm bs) with ha | ha
    ·rw [show (fileT nm).data.toList = byt (fileT nm) from rfl, ha] at he
     subst he
     have HD3 := hid hd3
     clear hd3 hk3 hkw hsr
     go_wp2_with fail
     refine (disk_sync w3 _ d _ _ (fileT nm) HD3.out (by unfold fileT; rw [ByteArray.size_append]; show nm.size + 5 ≤ maxLen; unfold maxLen; have := HZ20.out; omega)).mono ?_
     rintro e w4 ⟨rfl, hd4, hk4⟩
     have HR := hid (show SaveIs w B d cs s nm ⟨sn, true, sv⟩ (.returned (.int .u16 (syncR (appR cs s (byt (fileT nm)) (frm bs)).2 { s with left := leftC s.left } (byt (fileT nm))).1)) w4 from by
      unfold SaveIs
      rw [HSR.out, if_neg (by rw [ha]; decide)]
      refine ⟨rfl, hd4.more fun k hk h => ?_, HKW.out.trans hk4 fun k hk h => ?_⟩
      ·rcases h with h | h
       ·exact .inl h
       ·have := HEC.out.size; have := hk4.size; exact .inr ⟨by omega, by omega⟩
      ·rcases h with h | h
       ·exact h
       ·have := HEC.out.size; omega)
     clear hd4 hk4
     go_wp2
     go_ret
     exact HR.out
    ·rw [show (fileT nm).data.toList = byt (fileT nm) from rfl, ha] at he
     subst he
     have HR := hid (show SaveIs w B d cs s nm ⟨sn, true, sv⟩ (.returned (.int .u16 130)) w3 from by
      unfold SaveIs
      rw [HSR.out, if_pos (by rw [ha]; decide)]
      refine ⟨by rw [ha], hd3.more fun k hk h => ?_, HKW.out⟩
      rcases h with h | h
      ·exact .inl h
      ·have := HEC.out.size; exact .inr ⟨by omega, by omega⟩)
     clear hd3 hk3 hkw hsr
     go_wp2
     go_ret
     exact HR.out
   ·refine (wrap_long _ bs _ w1 HBB.out (by omega)).mono ?_
    rintro e w2 ⟨rfl, rfl⟩
    have HR := hid (show SaveIs w B d cs s nm ⟨sn, true, sv⟩ (.returned (.int .u16 3)) w1 from SaveIs.no (show saveE nm ⟨sn, true, sv⟩ = 3 from by
     unfold saveE
     rw [if_neg HE1.out, if_neg (show ¬ ((⟨sn, true, sv⟩ : Sh).there = false ∧ isZ (⟨sn, true, sv⟩ : Sh).v = false) from by simp), HC.out, if_neg (by decide), HBS.out, if_pos (by omega)]) (by decide) HD.out HEB.out)
    go_wp2
    go_ret
    exact HR.out
  ·rw [hC]
   have HR := hid (show SaveIs w B d cs s nm ⟨sn, true, sv⟩ (.returned (.int .u16 1)) w1 from SaveIs.no (by unfold saveE; rw [if_neg HE1.out, if_neg (show ¬ ((⟨sn, true, sv⟩ : Sh).there = false ∧ isZ (⟨sn, true, sv⟩ : Sh).v = false) from by simp), hC, if_pos (by decide)]) (by decide) HD.out HEB.out)
   clear hC
   go_wp2
   go_ret
   exact HR.out
  ·rw [hC]
   have HR := hid (show SaveIs w B d cs s nm ⟨sn, true, sv⟩ (.returned (.int .u16 3)) w1 from SaveIs.no (by unfold saveE; rw [if_neg HE1.out, if_neg (show ¬ ((⟨sn, true, sv⟩ : Sh).there = false ∧ isZ (⟨sn, true, sv⟩ : Sh).v = false) from by simp), hC, if_pos (by decide)]) (by decide) HD.out HEB.out)
   clear hC
   go_wp2
   go_ret
   exact HR.out
def FileIs (nm : ByteArray) (cs : List DC) (ss : List Sh) : Prop := (cs = [] ∧ ss = []) ∨ ∃ l, cs = [⟨byt (fileT nm), rowsL (ss.map shB), l⟩]
def GoodW (s : Sh) : Prop := ShOk s ∧ Wide s.v
theorem FileIs.read {nm : ByteArray} {cs : List DC} {ss : List Sh} (h : FileIs nm cs ss) : (readR cs (byt (fileT nm))).2 = rowsL (ss.map shB) := by
 rcases h with ⟨rfl, rfl⟩ | ⟨l, rfl⟩
 ·rfl
 ·rw [one_read]
theorem app_no {cs : List DC} {s : DSt} {f b : List UInt8} (h : (appR cs s f b).1 ≠ 0) : (appR cs s f b).2 = cs := by
 unfold appR at h ⊢
 by_cases h1 : fullC cs s b.length = true
 ·rw [if_pos h1]
 ·rw [if_neg h1] at h ⊢
  by_cases h2 : hasC cs f = true
  ·rw [if_pos h2] at h; exact absurd rfl h
  ·rw [if_neg h2] at h ⊢
   by_cases h3 : mayC cs.length f = true
   ·rw [if_pos h3] at h; exact absurd rfl h
   ·rw [if_neg h3]
theorem app_yes {nm : ByteArray} {cs : List DC} {ss : List Sh} {s : DSt} {x : Sh} (h : FileIs nm cs ss) (h0 : (appR cs s (byt (fileT nm)) (frm (shB x))).1 = 0) : FileIs nm (appR cs s (byt (fileT nm)) (frm (shB x))).2 (ss ++ [x]) := by
 unfold appR at h0 ⊢
 by_cases h1 : fullC cs s (frm (shB x)).length = true
 ·rw [if_pos h1] at h0; exact absurd (show (130 : Int) = 0 from h0) (by decide)
 ·rw [if_neg h1] at h0 ⊢
  rcases h with ⟨rfl, rfl⟩ | ⟨l, rfl⟩
  ·rw [if_neg (by unfold hasC; simp)] at h0 ⊢
   by_cases h3 : mayC ([] : List DC).length (byt (fileT nm)) = true
   ·rw [if_pos h3]; exact .inr ⟨0, by unfold insC; simp [rowsL]⟩
   ·rw [if_neg h3] at h0; exact absurd (show (130 : Int) = 0 from h0) (by decide)
  ·rw [if_pos (by unfold hasC; simp)]
   refine .inr ⟨l, ?_⟩
   unfold updC moreC
   rw [List.map_append]
   show _ = [DC.mk _ (rowsL (ss.map shB ++ [shB x])) _]
   rw [rowsL_snoc]
   simp
theorem sync_file {nm : ByteArray} {cs : List DC} {ss : List Sh} {s : DSt} (h : FileIs nm cs ss) : FileIs nm (syncR cs s (byt (fileT nm))).2 ss := by
 unfold syncR
 by_cases h1 : goesC s.left = false
 ·rw [if_pos h1]; exact h
 ·rw [if_neg h1]
  by_cases h2 : hasC cs (byt (fileT nm)) = true
  ·rw [if_pos h2]
   rcases h with ⟨rfl, rfl⟩ | ⟨l, rfl⟩
   ·exact absurd h2 (by unfold hasC; simp)
   ·exact .inr ⟨_, by unfold updC syncC; simp; rfl⟩
  ·rw [if_neg h2]; exact h
theorem saved_ok {nm : ByteArray} {x : Sh} (h : saveE nm x = 0) (hn : NAll N64 x.v) : ShOk x := by
 unfold saveE at h
 by_cases h1 : nm.size = 0 ∨ 20 < nm.size ∨ x.n < 0 ∨ 5000 < x.n
 ·rw [if_pos h1] at h; exact absurd h (by decide)
 ·rw [if_neg h1] at h
  by_cases h2 : x.there = false ∧ isZ x.v = false
  ·rw [if_pos h2] at h; exact absurd h (by decide)
  ·rw [if_neg h2] at h
   by_cases h3 : shC x ≠ 0
   ·rw [if_pos h3] at h; exact absurd h h3
   ·rw [if_neg h3] at h
    by_cases h4 : 60000 < (shB x).length
    ·rw [if_pos h4] at h; exact absurd h (by decide)
    ·refine ⟨by omega, by omega, fun ht => ?_, by omega, hn, by omega⟩
     refine (isZ_iff _).1 ?_
     cases hz : isZ x.v with
     | true => rfl
     | false => exact absurd ⟨ht, hz⟩ h2
theorem save_file {nm : ByteArray} {cs : List DC} {ss : List Sh} {s : DSt} {x : Sh} (h : FileIs nm cs ss) (hg : ∀ y ∈ ss, GoodW y) (hn : NAll N64 x.v) (hw : Wide x.v) : ∃ ss', FileIs nm (saveR cs s nm x).2.1 ss' ∧ ∀ y ∈ ss', GoodW y := by
 unfold saveR
 by_cases h0 : saveE nm x ≠ 0
 ·rw [if_pos h0]; exact ⟨ss, h, hg⟩
 ·have h0 : saveE nm x = 0 := by omega
  rw [if_neg (by omega)]
  by_cases h1 : (appR cs s (byt (fileT nm)) (frm (shB x))).1 ≠ 0
  ·rw [if_pos h1]
   refine ⟨ss, ?_, hg⟩
   show FileIs nm (appR cs s (byt (fileT nm)) (frm (shB x))).2 ss
   rw [app_no h1]; exact h
  ·rw [if_neg h1]
   refine ⟨ss ++ [x], sync_file (app_yes h (by omega)), fun y hy => ?_⟩
   rcases List.mem_append.1 hy with hy | hy
   ·exact hg y hy
   ·rw [List.mem_singleton.1 hy]; exact ⟨saved_ok h0 hn, hw⟩
theorem save_good {nm : ByteArray} {cs : List DC} {s : DSt} {x : Sh} (h : GoodC cs) : GoodC (saveR cs s nm x).2.1 := by
 unfold saveR
 by_cases h0 : saveE nm x ≠ 0
 ·rw [if_pos h0]; exact h
 ·rw [if_neg h0]
  by_cases h1 : (appR cs s (byt (fileT nm)) (frm (shB x))).1 ≠ 0
  ·rw [if_pos h1]; exact h.app _ _ _
  ·rw [if_neg h1]; exact (h.app _ _ _).sync _ _
theorem save_code (cs : List DC) (s : DSt) (nm : ByteArray) (x : Sh) : 0 ≤ (saveR cs s nm x).1 ∧ (saveR cs s nm x).1 ≤ 200 := by
 have hs : 0 ≤ shC x ∧ shC x ≤ 3 := by rcases shC_is x with h | h | h <;> rw [h] <;> decide
 have he : 0 ≤ saveE nm x ∧ saveE nm x ≤ 150 := by
  unfold saveE
  repeat' split
  all_goals omega
 unfold saveR
 by_cases h0 : saveE nm x ≠ 0
 ·rw [if_pos h0]; exact ⟨he.1, by show saveE nm x ≤ 200; omega⟩
 ·rw [if_neg h0]
  by_cases h1 : (appR cs s (byt (fileT nm)) (frm (shB x))).1 ≠ 0
  ·rw [if_pos h1]
   rcases app_is cs s (byt (fileT nm)) (frm (shB x)) with h | h <;> (show 0 ≤ (appR cs s (byt (fileT nm)) (frm (shB x))).1 ∧ (appR cs s (byt (fileT nm)) (frm (shB x))).1 ≤ 200; rw [h]; decide)
  ·rw [if_neg h1]
   show 0 ≤ (syncR _ _ _).1 ∧ (syncR _ _ _).1 ≤ 200
   unfold syncR
   repeat' split
   all_goals simp
theorem FileIs.scan {nm : ByteArray} {cs : List DC} {ss : List Sh} (h : FileIs nm cs ss) (hg : ∀ y ∈ ss, GoodW y) : (scanL (readR cs (byt (fileT nm))).2).1 = ss.map shB := by
 rw [h.read, scan_rows _ (fun x hx => by
  obtain ⟨y, hy, rfl⟩ := List.mem_map.1 hx
  exact (hg y hy).1.2.2.2.2.2)]
theorem FileIs.len {nm : ByteArray} {cs : List DC} {ss : List Sh} (h : FileIs nm cs ss) : (readR cs (byt (fileT nm))).2.length ≤ usedC cs := by
 rw [h.read]
 rcases h with ⟨rfl, rfl⟩ | ⟨l, rfl⟩
 ·exact Nat.le_refl _
 ·simp [usedC]
end Go.Proofs.YtihaliffcobacaaGreatDoor
