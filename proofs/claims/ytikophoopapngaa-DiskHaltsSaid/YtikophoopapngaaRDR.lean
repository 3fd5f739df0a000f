/- RDK, RDL, RDM, RDN, RDO, RDP, RDQ, RDR in one. -/
import Derived.Test.YtikophoopapngaaRDJ
import Derived.Test.YtikophoopapngaaDiskM
set_option linter.unusedSimpArgs false
set_option linter.unusedVariables false
/- The law's texts: are two lists of strings alike? -/
namespace Go.Proofs.Ytikophoopapngaa
open Go.RowKit
set_option linter.unusedVariables false

theorem bytes_eq_iff (x y : ByteArray) : x.toList = y.toList ↔ x = y := by
  rw [ByteArray.toList_eq, ByteArray.toList_eq]
  constructor
  · intro h
    cases x; cases y
    congr 1
    exact Array.toList_inj.1 h
  · rintro rfl; rfl
set_option maxHeartbeats 1600000 in
theorem texts_ok (w : World) (S S2 : BS) (u v : Value) (xs ys : List ByteArray) (hu : Sl EStr w S u xs) (hv : Sl EStr w S2 v ys) :
    Calls Try.prog 25 #[u, v] w fun e w' => e = .returned (.bool (decide (xs = ys))) ∧ Ext w w' := by
  obtain ⟨A, c, rfl, hlc, hcm⟩ := hu.shape
  obtain ⟨A2, c2, rfl, hlc2, hcm2⟩ := hv.shape
  unfold maxLen at hcm hcm2
  by_cases hl : xs.length = ys.length
  · rw [← hl] at hlc2 hv ⊢
    have HU := hid hu
    have HV := hid hv
    clear hu hv
    generalize hn : xs.length = n at *
    have HN := hid hn
    have HL := hid hl
    clear hn hl
    go_enter Try.func25, Try.ntmps25
    go_wp2_with fail
    go_loopw [5] (fun i wr => ∃ k : Nat, k ≤ n ∧ i = .int .i64 k ∧ xs.take k = ys.take k ∧ Ext w wr) (fun i _ => n - (intOf i).toNat)
    case atStart => exact ⟨0, by omega, rfl, rfl, Keep.refl _ _⟩
    case round =>
      obtain ⟨k, hk, rfl, htk, hE⟩ := hrel
      have HT := hid htk
      have HE := hid hE
      clear htk
      by_cases hlt : k < n
      · have hk1 : k < xs.length := by rw [HN.out]; exact hlt
        have hk2 : k < ys.length := by rw [← HL.out]; exact hlt
        obtain ⟨b1, o1, cc1, rfl, _, _, hr1, hc1⟩ := (HU.out.ext EStr.ok hE).at_ EStr.ok hk1
        obtain ⟨b2, o2, cc2, rfl, _, _, hr2, hc2⟩ := (HV.out.ext EStr.ok hE).at_ EStr.ok hk2
        have hr1 : cc1 = [.string xs[k]] := hr1
        have hr2 : cc2 = [.string ys[k]] := hr2
        subst hr1 hr2
        have p1 := hc1 0 _ rfl
        have p2 := hc2 0 _ rfl
        have ez : EStr.size = 1 := rfl
        simp only [ez, Nat.add_zero, Nat.mul_one] at p1 p2
        have hkX : (k : Int) < n := by omega
        have HX := hid (show xs.take (k + 1) = xs.take k ++ [xs[k]] from List.take_succ_eq_append_getElem hk1)
        have HY := hid (show ys.take (k + 1) = ys.take k ++ [ys[k]] from List.take_succ_eq_append_getElem hk2)
        have hX1 := hid (show xs[k]? = some xs[k] from List.getElem?_eq_getElem hk1)
        have hY1 := hid (show ys[k]? = some ys[k] from List.getElem?_eq_getElem hk2)
        clear hc1 hc2 ez hE
        generalize xs[k] = x at *
        generalize ys[k] = y at *
        by_cases hxy : x = y
        · have hb : (x.toList == y.toList) = true := by rw [hxy]; simp
          have HXY := hid hxy
          clear hxy
          go_wp2_with fail
          refine wp_region_grow (specOf []) (fun w' => Ext wr w') stable_nil (stableC_ext _) (by kernel_rfl) (by kernel_rfl) (Keep.drew (Keep.refl _ _)) ?_
          iterate 9
            (try simp only [Act.put, List.setIfInBounds_toArray, List.set_cons_zero, List.set_cons_succ])
            refine grow_run rfl rfl rfl ?_
            apply Exists.intro
            refine ⟨fun w' hC hK => ?_, ?_⟩
            · have p1 := (hC.cell (lt_of_cell p1) id).trans p1
              have p2 := (hC.cell (lt_of_cell p2) id).trans p2
              go_simp
              rfl
          refine grow_nil fun w' hC _ => ?_
          have HE2 := hid (HE.out.ext hC)
          have HTT := hid (show xs.take (k + 1) = ys.take (k + 1) by rw [HX.out, HY.out, HT.out, HXY.out])
          clear hC p1 p2
          go_wp2
          exact ⟨⟨k + 1, by omega, by go_num, HTT.out, HE2.out⟩, by simp [intOf]; omega⟩
        · have hb : (x.toList == y.toList) = false := by
            rw [beq_eq_false_iff_ne]
            exact fun h => hxy ((bytes_eq_iff x y).1 h)
          have HD := hid (show decide (xs = ys) = false by
            rw [decide_eq_false_iff_not]
            rintro rfl
            have h1 := hX1.out
            rw [hY1.out] at h1
            injection h1 with h1
            exact hxy h1.symm)
          clear hxy
          go_wp2_with fail
          refine wp_region_grow (specOf []) (fun w' => Ext wr w') stable_nil (stableC_ext _) (by kernel_rfl) (by kernel_rfl) (Keep.drew (Keep.refl _ _)) ?_
          iterate 9
            (try simp only [Act.put, List.setIfInBounds_toArray, List.set_cons_zero, List.set_cons_succ])
            refine grow_run rfl rfl rfl ?_
            apply Exists.intro
            refine ⟨fun w' hC hK => ?_, ?_⟩
            · have p1 := (hC.cell (lt_of_cell p1) id).trans p1
              have p2 := (hC.cell (lt_of_cell p2) id).trans p2
              go_simp
              rfl
          refine grow_nil fun w' hC _ => ?_
          have HE2 := hid (HE.out.ext hC)
          clear hC p1 p2
          go_wp2
          go_ret
          exact ⟨by rw [HD.out]; rfl, HE2.out⟩
      · obtain rfl : k = n := by omega
        have hkX : ¬ (k : Int) < k := by omega
        have HD := hid (show decide (xs = ys) = true by
          have h := HT.out
          rw [List.take_of_length_le (by rw [HN.out]; omega), List.take_of_length_le (by rw [← HL.out]; omega)] at h
          simpa using h)
        go_wp2
        go_ret
        exact ⟨by rw [HD.out]; rfl, HE.out⟩
  · have HD := hid (show decide (xs = ys) = false by simp; intro h; exact hl (by rw [h]))
    have hX : ¬ (xs.length : Int) = ys.length := by omega
    clear hu hv
    generalize xs.length = n at *
    generalize ys.length = m at *
    go_enter Try.func25, Try.ntmps25
    go_wp2
    go_ret
    exact ⟨by rw [HD.out]; rfl, Keep.refl _ _⟩
end Go.Proofs.Ytikophoopapngaa

/- Files in the order of their names; what calls make of them. -/
namespace Go.Proofs.Ytikophoopapngaa
open Go.RowKit
set_option linter.unusedVariables false

def AscC (cs : List DC) : Prop := cs.Pairwise fun x y => bytesBefore x.name y.name = true
theorem before_lt : ∀ {a b : List UInt8}, bytesBefore a b = true → a < b
  | [], [], h => by cases h
  | [], _ :: _, _ => List.nil_lt_cons _ _
  | _ :: _, [], h => by cases h
  | x :: a, y :: b, h => by
    simp only [bytesBefore, Bool.or_eq_true, Bool.and_eq_true, decide_eq_true_eq, beq_iff_eq] at h
    rw [List.cons_lt_cons_iff]
    rcases h with h | ⟨rfl, h⟩
    · exact .inl h
    · exact .inr ⟨rfl, before_lt h⟩
theorem before_tr : ∀ {a b c : List UInt8}, bytesBefore a b = true → bytesBefore b c = true → bytesBefore a c = true
  | [], [], _, h, _ => by cases h
  | _ :: _, [], _, h, _ => by cases h
  | _, _ :: _, [], _, h => by cases h
  | [], _ :: _, _ :: _, _, _ => rfl
  | x :: a, y :: b, z :: c, h1, h2 => by
    simp only [bytesBefore, Bool.or_eq_true, Bool.and_eq_true, decide_eq_true_eq, beq_iff_eq] at h1 h2 ⊢
    rcases h1 with h1 | ⟨rfl, h1⟩
    · left
      rcases h2 with h2 | ⟨rfl, _⟩
      · rw [UInt8.lt_iff_toNat_lt] at *; omega
      · exact h1
    · rcases h2 with h2 | ⟨rfl, h2⟩
      · exact .inl h2
      · exact .inr ⟨rfl, before_tr h1 h2⟩
theorem before_le {a b : List UInt8} (h : bytesBefore a b = true) : decide (a ≤ b) = true := by
  rw [decide_eq_true_eq]
  exact Std.le_of_lt (before_lt h)
theorem AscC.names {cs : List DC} (h : AscC cs) : namesC cs = texC cs := by
  unfold namesC texC
  rw [List.mergeSort_of_pairwise, List.map_map]
  · rfl
  · rw [List.pairwise_map]
    exact List.Pairwise.imp (fun h => before_le h) h
theorem before_ne {a b : List UInt8} (h : bytesBefore a b = true) : a ≠ b := by
  rintro rfl
  have := before_asymm h
  rw [h] at this
  cases this
theorem AscC.pw {cs : List DC} (h : AscC cs) : cs.Pairwise fun x y => x.name ≠ y.name := List.Pairwise.imp (fun h => before_ne h) h
theorem AscC.map {cs : List DC} (h : AscC cs) {g : DC → DC} (hg : ∀ c, (g c).name = c.name) : AscC (cs.map g) := by
  unfold AscC
  rw [List.pairwise_map]
  exact List.Pairwise.imp (fun {a b} h => by rw [hg, hg]; exact h) h
theorem AscC.upd {cs : List DC} (h : AscC cs) {g : DC → DC} (hg : ∀ c, (g c).name = c.name) (nm : List UInt8) : AscC (updC g cs nm) := h.map fun c => by split <;> simp [hg]
theorem AscC.del {cs : List DC} (h : AscC cs) (nm : List UInt8) : AscC (delC cs nm) := List.Pairwise.filter _ h
theorem AscC.ins {x : DC} : ∀ {cs : List DC}, AscC cs → (∀ c ∈ cs, c.name ≠ x.name) → AscC (insC x cs)
  | [], _, _ => List.pairwise_singleton _ _
  | y :: r, h, hn => by
    obtain ⟨h1, h2⟩ := List.pairwise_cons.1 h
    rw [insC]
    split
    · rename_i hb
      refine List.pairwise_cons.2 ⟨fun z hz => ?_, h⟩
      rcases List.mem_cons.1 hz with rfl | hz
      · exact hb
      · exact before_tr hb (h1 z hz)
    · rename_i hb
      refine List.pairwise_cons.2 ⟨fun z hz => ?_, AscC.ins h2 fun c hc => hn c (by simp [hc])⟩
      rcases mem_insC.1 hz with rfl | hz
      · exact before_other (fun e => hn y (by simp) e.symm) (by simpa using hb)
      · exact h1 z hz
end Go.Proofs.Ytikophoopapngaa

/- What calls make of files: order, and what lasts. -/
namespace Go.Proofs.Ytikophoopapngaa
open Go.RowKit
set_option linter.unusedVariables false

/-- No file has more that lasts than it has. -/
def LastC (cs : List DC) : Prop := ∀ c ∈ cs, c.l ≤ c.b.length
theorem LastC.map {cs : List DC} (h : LastC cs) {g : DC → DC} (hg : ∀ c, c.l ≤ c.b.length → (g c).l ≤ (g c).b.length) : LastC (cs.map g) := by
  intro c hc
  obtain ⟨x, hx, rfl⟩ := List.mem_map.1 hc
  exact hg x (h x hx)
theorem LastC.upd {cs : List DC} (h : LastC cs) {g : DC → DC} (hg : ∀ c, c.l ≤ c.b.length → (g c).l ≤ (g c).b.length) (nm : List UInt8) : LastC (updC g cs nm) := h.map fun c hc => by
  by_cases e : c.name = nm
  · rw [if_pos e]; exact hg c hc
  · rw [if_neg e]; exact hc
def GoodC (cs : List DC) : Prop := AscC cs ∧ LastC cs
theorem hasC_none {cs : List DC} {nm : List UInt8} (h : hasC cs nm = false) : ∀ c ∈ cs, c.name ≠ nm := by
  unfold hasC at h
  rw [List.any_eq_false] at h
  exact fun c hc e => h c hc (by simpa using e)
theorem GoodC.app {cs : List DC} (h : GoodC cs) (s : DSt) (nm b : List UInt8) : GoodC (appR cs s nm b).2 := by
  unfold appR
  split
  · exact h
  · split
    · exact ⟨h.1.upd (g := moreC b) (fun _ => rfl) _, h.2.upd (g := moreC b) (fun c hc => by show c.l ≤ (c.b ++ b).length; rw [List.length_append]; omega) _⟩
    · rename_i hh
      split
      · refine ⟨h.1.ins (hasC_none (by simpa using hh)), fun c hc => ?_⟩
        rcases mem_insC.1 hc with rfl | hc
        · exact Nat.zero_le _
        · exact h.2 c hc
      · exact h
theorem GoodC.sync {cs : List DC} (h : GoodC cs) (s : DSt) (nm : List UInt8) : GoodC (syncR cs s nm).2 := by
  unfold syncR
  split
  · exact h
  · split
    · exact ⟨h.1.upd (g := syncC) (fun _ => rfl) _, h.2.upd (g := syncC) (fun c hc => Nat.le_refl _) _⟩
    · exact h
theorem GoodC.cut {cs : List DC} (h : GoodC cs) (s : DSt) (nm : List UInt8) (n : Int) : GoodC (cutR cs s nm n).2 := by
  unfold cutR
  split
  · exact h
  · split
    · exact h
    · split
      · exact h
      · exact ⟨h.1.upd (g := cutC n.toNat) (fun _ => rfl) _, h.2.upd (g := cutC n.toNat) (fun c hc => by show min c.l n.toNat ≤ (c.b.take n.toNat).length; rw [List.length_take]; omega) _⟩
theorem GoodC.drop {cs : List DC} (h : GoodC cs) (s : DSt) (nm : List UInt8) : GoodC (dropR cs s nm).2 := by
  unfold dropR
  split
  · exact h
  · split
    · exact ⟨h.1.del _, fun c hc => h.2 c (List.mem_filter.1 hc).1⟩
    · exact h
theorem GoodC.crash {cs : List DC} (h : GoodC cs) (k : Nat) : GoodC (cs.map (crashC k)) :=
  ⟨h.1.map fun _ => rfl, h.2.map fun c hc => by show keptC k c ≤ (c.b.take (keptC k c)).length; rw [List.length_take]; unfold keptC; omega⟩
theorem GoodC.nil : GoodC [] := ⟨List.Pairwise.nil, fun _ h => by cases h⟩
end Go.Proofs.Ytikophoopapngaa

/- Both disks, side by side. -/
namespace Go.Proofs.Ytikophoopapngaa
open Go.RowKit
set_option linter.unusedVariables false

structure Twin (w0 w : World) (B1 B2 : BS) (d r : Nat) (cs : List DC) (s : DSt) : Prop where
  disk : DskW w0 w B1 d cs s
  ref : RdIs w B2 r cs s
  low : ∀ k, B2 k → w0.heap.size ≤ k ∧ k < w.heap.size
  good : GoodC cs
  apart : ∀ k, B1 k → ¬ B2 k
section
variable {w0 w w1 w2 : World} {B1 B2 : BS} {d r : Nat} {cs cs' : List DC} {s s' : DSt}
theorem Twin.mid (h : Twin w0 w B1 B2 d r cs s) (hk : Keep B1 w w1) : RdIs w1 B2 r cs s := h.ref.keep hk fun k hk e => h.apart k e hk
theorem Twin.more (h : Twin w0 w B1 B2 d r cs s) (he : Ext w w1) : Twin w0 w1 B1 B2 d r cs s :=
  ⟨h.disk.more he, h.ref.ext he, fun k hk => ⟨(h.low k hk).1, Nat.lt_of_lt_of_le (h.low k hk).2 he.size⟩, h.good, h.apart⟩
theorem Twin.two (h : Twin w0 w B1 B2 d r cs s) (hk1 : Keep B1 w w1) (hd : DiskIs w1 (moreB B1 w w1) d cs' s') (hk2 : Keep B2 w1 w2) (hr : RdIs w2 (moreB B2 w1 w2) r cs' s') (hg : GoodC cs') : Twin w0 w2 (moreB B1 w w1) (moreB B2 w1 w2) d r cs' s' := by
  have hs1 := hk1.size
  have hs2 := hk2.size
  refine ⟨(h.disk.grow hk1 hd).other hk2 (fun k hb e => ?_) fun k hk => (h.low k hk).1, hr, fun k hk => ?_, hg, fun k h1 h2 => ?_⟩
  · have h2 := (h.low k e).2
    rcases hb with hb | hb
    · exact h.apart k hb e
    · omega
  · have h0 := h.disk.ext.size
    rcases hk with hk | hk
    · have := h.low k hk; exact ⟨this.1, by omega⟩
    · exact ⟨by omega, hk.2⟩
  · rcases h1 with h1 | h1
    · rcases h2 with h2 | h2
      · exact h.apart k h1 h2
      · have := (h.disk.low k h1).2; omega
    · rcases h2 with h2 | h2
      · have := (h.low k h2).2; omega
      · omega
end
end Go.Proofs.Ytikophoopapngaa

/- What one of the law's calls makes of files and state (for does). -/
namespace Go.Proofs.Ytikophoopapngaa
open Go.RowKit
set_option linter.unusedVariables false

/-- The files and the state behind a call of kind k. -/
def doesR (cs : List DC) (s : DSt) (k : Nat) (nm b : List UInt8) (n : Int) : List DC × DSt :=
  if k % 12 = 4 ∨ k % 12 = 5 then ((syncR cs s nm).2, { s with left := leftC s.left })
  else if k % 12 = 6 then ((cutR cs s nm n).2, { s with left := leftC s.left })
  else if k % 12 = 7 then ((dropR cs s nm).2, { s with left := leftC s.left })
  else if k % 12 = 8 then (cs, s)
  else if k % 12 = 9 then (cs.map (crashC n.toNat), ⟨s.room, false, -1⟩)
  else if k % 12 = 10 then (cs, { s with full := n.tmod 2 != 0 })
  else if k % 12 = 11 then (cs, { s with left := max n (-1) })
  else ((appR cs s nm b).2, { s with left := leftC s.left })
theorem GoodC.does {cs : List DC} (h : GoodC cs) (s : DSt) (k : Nat) (nm b : List UInt8) (n : Int) : GoodC (doesR cs s k nm b n).1 := by
  unfold doesR
  repeat' split
  · exact h.sync _ _
  · exact h.cut _ _ _
  · exact h.drop _ _
  · exact h
  · exact h.crash _
  · exact h
  · exact h
  · exact h.app _ _ _
end Go.Proofs.Ytikophoopapngaa

/- The law's does: the kinds that answer nothing. -/
namespace Go.Proofs.Ytikophoopapngaa
open Go.RowKit
set_option linter.unusedVariables false

def DoesIs (w0 : World) (d r : Nat) (x : List DC × DSt) (e : Ending) (w' : World) : Prop := e = .returned (.bool true) ∧ ∃ B1 B2, Twin w0 w' B1 B2 d r x.1 x.2
set_option maxRecDepth 20000 in
set_option maxHeartbeats 3200000 in
theorem does_crash (w0 w : World) (B1 B2 : BS) (d r : Nat) (cs : List DC) (s : DSt) (k : UInt8) (nm : ByteArray) (A : Option Addr) (n c : Nat) (z : Int) (hk : k.toNat % 12 = 9) (h : Twin w0 w B1 B2 d r cs s) :
    Calls Try.prog 20 #[.pointer (some ⟨d, 0, none⟩), .pointer (some ⟨r, 0, none⟩), .agg #[U8 k, .string nm, .slice A n c, .int .i64 z]] w (DoesIs w0 d r (cs.map (crashC z.toNat), ⟨s.room, false, -1⟩)) := by
  obtain ⟨W, hW⟩ : ∃ W, w.alloc (.cells #[U8 k, .string nm, .slice A n c, .int .i64 z] 42) = W := ⟨_, rfl⟩
  have hE : Ext w W := by rw [← hW]; exact (Keep.refl _ _).alloc _
  have hb : Blk W w.heap.size 42 #[U8 k, .string nm, .slice A n c, .int .i64 z] := by rw [← hW]; exact Blk.new _ _ _
  have q0 := hb.cell 0
  have q3 := hb.cell 3
  simp only [List.getElem?_toArray, List.getElem?_cons_succ, List.getElem?_cons_zero] at q0 q3
  have HT := hid (h.more hE)
  have HQ3 := hid q3
  have HLO := hid (show ¬ B1 w.heap.size from fun hb => by have := (h.disk.low _ hb).2; omega)
  have hkz : ((k.toNat : Int)).tmod 12 = 9 := by rw [Int.tmod_eq_emod_of_nonneg (by omega)]; omega
  have hkz2 : (k.toNat : Int) % 12 = 9 := by omega
  clear h hE hb
  go_enter Try.func20, Try.ntmps20
  go_wp2_with fail
  refine (disk_crash _ B1 d cs s z HT.out.disk.is).mono ?_
  rintro e w1 ⟨rfl, hd, hk1⟩
  have hr := HT.out.mid hk1
  have q3' := (hk1.cell (lt_of_cell HQ3.out) HLO.out).trans HQ3.out
  have HD := hid hd
  have HK1 := hid hk1
  have HR := hid hr
  clear q0 q3 hd hk1 hr
  go_wp2_with fail
  refine (ref_crash _ B2 r cs s z (Nat.le_trans HT.out.disk.is.1.used HT.out.disk.is.1.room) HT.out.good.2 HR.out).mono ?_
  rintro e w2 ⟨rfl, hr2, hk2⟩
  have HTT := hid (HT.out.two HK1.out (HD.out.more fun _ _ h => .inl h) hk2 (hr2.more fun _ _ h => .inl h) (HT.out.good.crash _))
  clear hr2 hk2
  go_wp2
  go_ret
  exact ⟨rfl, _, _, HTT.out⟩
end Go.Proofs.Ytikophoopapngaa

/- The law's does: Full, Halt. -/
namespace Go.Proofs.Ytikophoopapngaa
open Go.RowKit
set_option linter.unusedVariables false

set_option maxRecDepth 20000 in
set_option maxHeartbeats 3200000 in
theorem does_full (w0 w : World) (B1 B2 : BS) (d r : Nat) (cs : List DC) (s : DSt) (k : UInt8) (nm : ByteArray) (A : Option Addr) (n c : Nat) (z : Int) (hk : k.toNat % 12 = 10) (h : Twin w0 w B1 B2 d r cs s) :
    Calls Try.prog 20 #[.pointer (some ⟨d, 0, none⟩), .pointer (some ⟨r, 0, none⟩), .agg #[U8 k, .string nm, .slice A n c, .int .i64 z]] w (DoesIs w0 d r (cs, { s with full := z.tmod 2 != 0 })) := by
  obtain ⟨W, hW⟩ : ∃ W, w.alloc (.cells #[U8 k, .string nm, .slice A n c, .int .i64 z] 42) = W := ⟨_, rfl⟩
  have hE : Ext w W := by rw [← hW]; exact (Keep.refl _ _).alloc _
  have hb : Blk W w.heap.size 42 #[U8 k, .string nm, .slice A n c, .int .i64 z] := by rw [← hW]; exact Blk.new _ _ _
  have q0 := hb.cell 0
  have q3 := hb.cell 3
  simp only [List.getElem?_toArray, List.getElem?_cons_succ, List.getElem?_cons_zero] at q0 q3
  have HT := hid (h.more hE)
  have HQ3 := hid q3
  have HLO := hid (show ¬ B1 w.heap.size from fun hb => by have := (h.disk.low _ hb).2; omega)
  have hkz : ((k.toNat : Int)).tmod 12 = 10 := by rw [Int.tmod_eq_emod_of_nonneg (by omega)]; omega
  have hkz2 : (k.toNat : Int) % 12 = 10 := by omega
  clear h hE hb
  go_enter Try.func20, Try.ntmps20
  go_wp2_with fail
  refine (disk_full _ B1 d cs s (z.tmod 2 != 0) HT.out.disk.is).mono ?_
  rintro e w1 ⟨rfl, hd, hk1⟩
  have hr := HT.out.mid hk1
  have q3' := (hk1.cell (lt_of_cell HQ3.out) HLO.out).trans HQ3.out
  have HD := hid hd
  have HK1 := hid hk1
  have HR := hid hr
  clear q0 q3 hd hk1 hr
  go_wp2_with fail
  refine (ref_full _ B2 r cs s (z.tmod 2 != 0) HR.out).mono ?_
  rintro e w2 ⟨rfl, hr2, hk2⟩
  have HTT := hid (HT.out.two HK1.out (HD.out.more fun _ _ h => .inl h) hk2 (hr2.more fun _ _ h => .inl h) HT.out.good)
  clear hr2 hk2
  go_wp2
  go_ret
  exact ⟨rfl, _, _, HTT.out⟩
set_option maxRecDepth 20000 in
set_option maxHeartbeats 3200000 in
theorem does_halt (w0 w : World) (B1 B2 : BS) (d r : Nat) (cs : List DC) (s : DSt) (k : UInt8) (nm : ByteArray) (A : Option Addr) (n c : Nat) (z : Int) (hk : k.toNat % 12 = 11) (HZ : (Lit.int .i64 z).wf = true) (h : Twin w0 w B1 B2 d r cs s) :
    Calls Try.prog 20 #[.pointer (some ⟨d, 0, none⟩), .pointer (some ⟨r, 0, none⟩), .agg #[U8 k, .string nm, .slice A n c, .int .i64 z]] w (DoesIs w0 d r (cs, { s with left := max z (-1) })) := by
  obtain ⟨W, hW⟩ : ∃ W, w.alloc (.cells #[U8 k, .string nm, .slice A n c, .int .i64 z] 42) = W := ⟨_, rfl⟩
  have hE : Ext w W := by rw [← hW]; exact (Keep.refl _ _).alloc _
  have hb : Blk W w.heap.size 42 #[U8 k, .string nm, .slice A n c, .int .i64 z] := by rw [← hW]; exact Blk.new _ _ _
  have q0 := hb.cell 0
  have q3 := hb.cell 3
  simp only [List.getElem?_toArray, List.getElem?_cons_succ, List.getElem?_cons_zero] at q0 q3
  have HT := hid (h.more hE)
  have HQ3 := hid q3
  have HLO := hid (show ¬ B1 w.heap.size from fun hb => by have := (h.disk.low _ hb).2; omega)
  have hkz : ((k.toNat : Int)).tmod 12 = 11 := by rw [Int.tmod_eq_emod_of_nonneg (by omega)]; omega
  have hkz2 : (k.toNat : Int) % 12 = 11 := by omega
  clear h hE hb
  go_enter Try.func20, Try.ntmps20
  go_wp2_with fail
  refine (disk_halt _ B1 d cs s z HZ HT.out.disk.is).mono ?_
  rintro e w1 ⟨rfl, hd, hk1⟩
  have hr := HT.out.mid hk1
  have q3' := (hk1.cell (lt_of_cell HQ3.out) HLO.out).trans HQ3.out
  have HD := hid hd
  have HK1 := hid hk1
  have HR := hid hr
  clear q0 q3 hd hk1 hr
  go_wp2_with fail
  refine (ref_halt _ B2 r cs s z HR.out).mono ?_
  rintro e w2 ⟨rfl, hr2, hk2⟩
  have HTT := hid (HT.out.two HK1.out (HD.out.more fun _ _ h => .inl h) hk2 (hr2.more fun _ _ h => .inl h) HT.out.good)
  clear hr2 hk2
  go_wp2
  go_ret
  exact ⟨rfl, _, _, HTT.out⟩
end Go.Proofs.Ytikophoopapngaa

/- The law's does: Read. -/
namespace Go.Proofs.Ytikophoopapngaa
open Go.RowKit
set_option linter.unusedVariables false

set_option maxRecDepth 20000 in
set_option maxHeartbeats 3200000 in
theorem does_read (w0 w : World) (B1 B2 : BS) (d r : Nat) (cs : List DC) (s : DSt) (k : UInt8) (nm : ByteArray) (A : Option Addr) (n c : Nat) (z : Int) (hk : k.toNat % 12 = 8) (HZ : nm.size ≤ maxLen) (h : Twin w0 w B1 B2 d r cs s) :
    Calls Try.prog 20 #[.pointer (some ⟨d, 0, none⟩), .pointer (some ⟨r, 0, none⟩), .agg #[U8 k, .string nm, .slice A n c, .int .i64 z]] w (DoesIs w0 d r (cs, s)) := by
  obtain ⟨W, hW⟩ : ∃ W, w.alloc (.cells #[U8 k, .string nm, .slice A n c, .int .i64 z] 42) = W := ⟨_, rfl⟩
  have hE : Ext w W := by rw [← hW]; exact (Keep.refl _ _).alloc _
  have hb : Blk W w.heap.size 42 #[U8 k, .string nm, .slice A n c, .int .i64 z] := by rw [← hW]; exact Blk.new _ _ _
  have q0 := hb.cell 0
  have q3 := hb.cell 1
  simp only [List.getElem?_toArray, List.getElem?_cons_succ, List.getElem?_cons_zero] at q0 q3
  have HT := hid (h.more hE)
  have HQ3 := hid q3
  have HLO := hid (show ¬ B1 w.heap.size from fun hb => by have := (h.disk.low _ hb).2; omega)
  have hkz : ((k.toNat : Int)).tmod 12 = 8 := by rw [Int.tmod_eq_emod_of_nonneg (by omega)]; omega
  have hkz2 : (k.toNat : Int) % 12 = 8 := by omega
  clear h hE hb
  go_enter Try.func20, Try.ntmps20
  go_wp2_with fail
  obtain ⟨code, hcode⟩ : ∃ code, (readR cs nm.data.toList).1 = code := ⟨_, rfl⟩
  obtain ⟨x, hx⟩ : ∃ x, (readR cs nm.data.toList).2 = x := ⟨_, rfl⟩
  have hcd : code = 0 ∨ code = 131 := by rw [← hcode]; unfold readR; split <;> simp
  have HCD := hid hcd
  have HC0 := hid hcode
  have HX0 := hid hx
  clear hcd hcode hx
  refine (disk_read _ B1 d cs s nm HT.out.disk.is HZ).mono ?_
  rintro e w1 ⟨A1, c1, rfl, hb1, hE1⟩
  rw [HX0.out] at hb1 ⊢
  rw [HC0.out]
  have q3' := (hE1.cell (lt_of_cell HQ3.out) id).trans HQ3.out
  have HT1 := hid (HT.out.more hE1)
  have HB1 := hid hb1
  clear q0 q3 hb1 hE1
  go_wp2_with fail
  refine (ref_read _ B2 r cs s nm (Nat.le_trans HT.out.disk.is.1.used HT.out.disk.is.1.room) HT1.out.ref).mono ?_
  rintro e w2 ⟨A2, c2, rfl, hb2, hE2⟩
  rw [HX0.out] at hb2 ⊢
  rw [HC0.out]
  have HT2 := hid (HT1.out.more hE2)
  have hv1 := convert_bytesS (HB1.out.ext EU8.ok hE2)
  have hv2 := convert_bytesS hb2
  have hbe : ((textOf x).toList == (textOf x).toList) = true := by simp
  have hwc : IntKind.i64.wrap code = code := by rcases HCD.out with h | h <;> rw [h] <;> rfl
  clear hb2 hE2
  go_wp2
  go_ret
  exact ⟨by simp, _, _, HT2.out⟩
end Go.Proofs.Ytikophoopapngaa
