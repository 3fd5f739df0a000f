/- The law's does: All, what it answers being written over. -/
import Derived.Test.YtjpbfdkpkeaofaaNetAllF
set_option linter.unusedSimpArgs false
set_option linter.unusedVariables false
namespace Go.Proofs.Ytjpbfdkpkeaofaa
open Go.RowKit
set_option linter.unusedVariables false

theorem xor_u8 (a b : UInt8) : bits .xor .u8 (a.toNat : Int) (b.toNat : Int) = ((a ^^^ b).toNat : Int) := by
  rw [u8_xor_nat _ _ a.toNat_lt b.toNat_lt, UInt8.toNat_xor]
section
variable {w : World} {pb po : Nat} {x y : UInt8} {S : BS}
theorem cell_u8 (hp : w.cell? ⟨pb, po, none⟩ = some (U8 y)) {q : Addr} {u : Value} (hq : w.cell? q = some u) : (w.setCell ⟨pb, po, none⟩ (U8 x)).cell? q = some (if q = ⟨pb, po, none⟩ then U8 x else u) := by
  by_cases e : q = ⟨pb, po, none⟩
  · subst e; rw [if_pos rfl]; exact World.cell?_setCell_same _ _ _ hq
  · rw [if_neg e, World.cell?_setCell_other _ _ _ _ (fun h => e h.symm)]; exact hq
theorem bytes_u8 (hp : w.cell? ⟨pb, po, none⟩ = some (U8 y)) {v : Value} {l : List UInt8} (h : BytesS w S v l) : ∃ l' : List UInt8, l'.length = l.length ∧ BytesS (w.setCell ⟨pb, po, none⟩ (U8 x)) S v l' := by
  obtain ⟨A, c, rfl, hlc, hcm⟩ := h.shape
  obtain ⟨cs, ⟨h1, A', c', e, h2, h3, h4⟩, h5⟩ := h
  injection e with e1 e2 e3
  subst e1 e3
  have hcs := cells_U8 h5
  rcases Nat.eq_zero_or_pos l.length with h0 | h0
  · have : l = [] := List.eq_nil_of_length_eq_zero h0
    subst this
    exact ⟨[], rfl, [], ⟨by simp, A, c, rfl, by simp, hcm, fun h => by simp at h⟩, rfl⟩
  · obtain ⟨b, off, rfl, hb, hlt, hc⟩ := h4 h0
    obtain ⟨l', cs', hl', hcc, hcell⟩ := cells_build (E := EU8) (w := w.setCell ⟨pb, po, none⟩ (U8 x)) (S := S) (b := b) (off := off) EU8.ok l.length fun i hi => by
      have hq := hc i (U8 l[i]) (by rw [hcs, List.getElem?_map, List.getElem?_eq_getElem hi]; rfl)
      have := cell_u8 (x := x) hp hq
      refine ⟨if (⟨b, off + i, none⟩ : Addr) = ⟨pb, po, none⟩ then x else l[i], [U8 (if (⟨b, off + i, none⟩ : Addr) = ⟨pb, po, none⟩ then x else l[i])], rfl, fun j u hu => ?_⟩
      have hj : j = 0 := by have := (List.getElem?_eq_some_iff.1 hu).1; simp at this; omega
      subst hj
      obtain rfl : u = U8 (if (⟨b, off + i, none⟩ : Addr) = ⟨pb, po, none⟩ then x else l[i]) := by simpa using hu.symm
      have hz : EU8.size = 1 := rfl
      rw [hz, Nat.mul_one, Nat.add_zero, this]
      split <;> rfl
    refine ⟨l', hl', cs', ⟨hcc.len EU8.ok, some ⟨b, off, none⟩, c, by rw [hl'], by omega, hcm, fun _ => ⟨b, off, rfl, hb, by simpa using hlt, hcell⟩⟩, hcc⟩
theorem unf_set {bv : Value} (h : UnF w bv) : UnF (w.setCell ⟨pb, po, none⟩ (U8 x)) bv := by
  intro b o n c e h0
  obtain ⟨t, cur, h1⟩ := h b o n c e h0
  by_cases hb : b = pb
  · subst hb; exact ⟨t, _, h1.set_ po _⟩
  · exact ⟨t, cur, h1.far (fun e => hb e) _⟩
theorem mails_cells (hp : w.cell? ⟨pb, po, none⟩ = some (U8 y)) : ∀ (ms : List Mail) (cs : List Value), Cells EMailF w S cs ms → (∀ u ∈ cs, ∀ z, u ≠ U8 z) ∧ ∃ ms' : List Mail, ms'.map (fun m => m.b.length) = ms.map (fun m => m.b.length) ∧ Cells EMailF (w.setCell ⟨pb, po, none⟩ (U8 x)) S cs ms'
  | [], cs, h => by
    have h : cs = [] := h
    subst h
    exact ⟨fun u hu => (by cases hu), [], rfl, rfl⟩
  | m :: ms, cs, ⟨c0, c1, e, ⟨bv, e2, hb, hu⟩, h1⟩ => by
    obtain ⟨k1, ms', k2, k3⟩ := mails_cells hp ms c1 h1
    obtain ⟨l', hl', hb'⟩ := bytes_u8 (x := x) hp hb
    obtain ⟨A, c, hbv, _⟩ := hb.shape
    refine ⟨fun u hu z => ?_, ⟨m.sess, m.up, l'⟩ :: ms', ?_, c0, c1, e, ⟨bv, e2, hb', unf_set hu⟩, k3⟩
    · subst e
      rcases List.mem_append.1 hu with hu | hu
      · subst e2
        rcases List.mem_cons.1 hu with rfl | hu
        · intro h; cases h
        · rcases List.mem_cons.1 hu with rfl | hu
          · intro h; cases h
          · rcases List.mem_cons.1 hu with rfl | hu
            · rw [hbv]; intro h; cases h
            · cases hu
      · exact k1 u hu z
    · rw [List.map_cons, List.map_cons, k2]; show l'.length :: _ = _; rw [hl']
theorem mails_u8 (hp : w.cell? ⟨pb, po, none⟩ = some (U8 y)) {v : Value} {ms : List Mail} (h : Sl EMailF w S v ms) : ∃ ms' : List Mail, ms'.map (fun m => m.b.length) = ms.map (fun m => m.b.length) ∧ Sl EMailF (w.setCell ⟨pb, po, none⟩ (U8 x)) S v ms' := by
  obtain ⟨cs, ⟨h1, A, c, e, h2, h3, h4⟩, h5⟩ := h
  obtain ⟨k1, ms', k2, k3⟩ := mails_cells (x := x) hp ms cs h5
  have hl : ms'.length = ms.length := by simpa using congrArg List.length k2
  refine ⟨ms', k2, cs, ⟨by rw [hl]; exact h1, A, c, by rw [hl]; exact e, by rw [hl]; exact h2, h3, fun h0 => ?_⟩, k3⟩
  obtain ⟨b, off, e2, hb, hlt, hc⟩ := h4 (by rw [← hl]; exact h0)
  refine ⟨b, off, e2, hb, by simpa using hlt, fun j u hu => ?_⟩
  have hq := hc j u hu
  rw [cell_u8 (x := x) hp hq]
  split
  · rename_i e3
    rw [e3, hp] at hq
    exact absurd (Option.some.inj hq).symm (k1 u (List.mem_of_getElem? hu) y)
  · rfl
end
def OldM (ms : List Mail) (W : World) (v : Value) (w : World) : Prop := ∃ lr : List Mail, lr.map (fun m => m.b.length) = ms.map (fun m => m.b.length) ∧ Sl EMailF w (fun k => W.heap.size ≤ k) v lr ∧ Ext W w
set_option maxRecDepth 20000 in
set_option maxHeartbeats 3200000 in
theorem does_all (w0 w : World) (bn rn : Nat) (g1 g2 : Option Nat) (ms : List Mail) (k : UInt8) (sess : Int) (up : Bool) (A : Option Addr) (n c : Nat) (z : Int) (hk : k.toNat % 9 = 8) (hm20 : ms.length < 2000) (hby : ∀ m ∈ ms, m.b.length ≤ 60000) (h : Pair w0 w bn rn g1 g2 ms ms) :
    Calls Try.prog 14 #[.pointer (some ⟨bn, 0, none⟩), .pointer (some ⟨rn, 0, none⟩), .agg #[U8 k, .int .i64 sess, .bool up, .slice A n c, .int .i64 z]] w (DoneN w0 bn rn ms) := by
  obtain ⟨W, hW⟩ : ∃ W, w.alloc (.cells #[U8 k, .int .i64 sess, .bool up, .slice A n c, .int .i64 z] 30) = W := ⟨_, rfl⟩
  have hE : Ext w W := by rw [← hW]; exact (Keep.refl _ _).alloc _
  have hb : Blk W w.heap.size 30 #[U8 k, .int .i64 sess, .bool up, .slice A n c, .int .i64 z] := by rw [← hW]; exact Blk.new _ _ _
  have q0 := hb.cell 0
  have q3 := hb.cell 4
  simp only [List.getElem?_toArray, List.getElem?_cons_succ, List.getElem?_cons_zero] at q0 q3
  have HT := hid (h.more hE)
  have HL := hid HT.out.lw
  have HQ3 := hid q3
  have HQ0 := hid q0
  have HLO := hid (show ¬ (NF bn g1 w.heap.size ∨ NF rn g2 w.heap.size) from fun hb => by
    have h1 := h.net.lt
    have h2 := h.ref.lt
    rcases hb with (h | h) | h | h
    · omega
    · have := (h1.2 _ h).2; omega
    · omega
    · have := (h2.2 _ h).2; omega)
  have hkz : ((k.toNat : Int)).tmod 9 = 8 := by rw [Int.tmod_eq_emod_of_nonneg (by omega)]; omega
  have hkz2 : (k.toNat : Int) % 9 = 8 := by omega
  clear h hE hb q0 q3
  have q0 := HQ0.out
  have HM := hid hm20
  have HBY := hid hby
  clear hm20 hby
  go_enter Try.func14, Try.ntmps14
  go_wp2_with fail
  refine (all_okF _ _ bn g1 ms HT.out.net (Nat.le_of_lt HM.out) HBY.out).mono ?_
  rintro e w1 ⟨v1, rfl, hv, hE⟩
  obtain ⟨A1, c1, rfl, hlc, hcm⟩ := hv.shape
  unfold maxLen at hcm
  have HS := hid (show OldM ms W (.slice A1 ms.length c1) w1 from ⟨ms, rfl, hv, hE⟩)
  have hm20 : ms.length < 2000 := HM.out
  obtain ⟨n1, hn1⟩ : ∃ n1, ms.length = n1 := ⟨_, rfl⟩
  rw [hn1] at HS hlc hm20 ⊢
  have HN1 := hid hn1
  clear hv hE q0 hn1
  go_wp2_with fail
  go_loopw [12] (fun y wr => ∃ (i : Nat), i ≤ n1 ∧ y = .int .i64 i ∧ OldM ms W (.slice A1 n1 c1) wr) (fun y _ => n1 - (intOf y).toNat)
  case atStart => exact ⟨0, by omega, rfl, HS.out⟩
  case round =>
    clear HS
    obtain ⟨i, hi, rfl, hS⟩ := hrel
    have HS := hid hS
    clear hS
    by_cases hlt : i < n1
    · have hX : (i : Int) < n1 := by omega
      have him : i < ms.length := by rw [HN1.out]; exact hlt
      obtain ⟨n2, hn2⟩ : ∃ n2, ms[i].b.length = n2 := ⟨_, rfl⟩
      have HN2 := hid hn2
      have HB6 := hid (show n2 ≤ 60000 from by rw [← hn2]; exact HBY.out _ (List.getElem_mem _))
      clear hn2
      go_wp2_with fail
      go_loopw [13] (fun y wr => ∃ (j : Nat), j ≤ n2 ∧ y = .int .i64 j ∧ OldM ms W (.slice A1 n1 c1) wr) (fun y _ => n2 - (intOf y).toNat)
      case atStart => exact ⟨0, by omega, rfl, HS.out⟩
      case round =>
        clear HS
        obtain ⟨j, hj, rfl, lr, hlr, hsl, hE⟩ := hrel
        have hll : lr.length = ms.length := by simpa using congrArg List.length hlr
        have hil : i < lr.length := by rw [hll]; exact him
        have hbl : lr[i].b.length = n2 := by
          have := congrArg (fun l => l[i]?) hlr
          simp only [List.getElem?_map, List.getElem?_eq_getElem hil, List.getElem?_eq_getElem him, Option.map_some, Option.some.injEq] at this
          rw [this]; exact HN2.out
        have hsl2 := hsl
        rw [show (Value.slice A1 n1 c1) = .slice A1 n1 c1 from rfl] at hsl2
        obtain ⟨b, off, cc, rfl, hbW, hltb, ⟨bv, rfl, hbv, hun⟩, hcc⟩ := hsl2.at_ EMailF.ok hil
        obtain ⟨A2, c2, rfl, hlc2, hcm2⟩ := hbv.shape
        unfold maxLen at hcm2
        rw [hbl] at hcc hbv hlc2
        have e2 := hcc 2 _ rfl
        have hz3 : EMailF.size = 3 := rfl
        simp only [hz3] at e2
        have HSL := hid (show OldM ms W (.slice (some ⟨b, off, none⟩) n1 c1) wr from ⟨lr, hlr, hsl, hE⟩)
        have HE := hid hE
        by_cases hlt2 : j < n2
        · have hX2 : (j : Int) < n2 := by omega
          obtain ⟨b2, o2, cc2, rfl, hbW2, hltb2, hr2, hcc2⟩ := hbv.at_ EU8.ok (k := j) (by omega)
          have hr2 : cc2 = [U8 _] := hr2
          subst hr2
          have e3 := hcc2 0 _ rfl
          have hz1 : EU8.size = 1 := rfl
          simp only [hz1, Nat.mul_one, Nat.add_zero] at e3
          generalize lr[i].b[j]'(by omega) = y0 at *
          have HMU := hid (show ∀ wz, Ext wr wz → ∀ x, OldM ms W (.slice (some ⟨b, off, none⟩) n1 c1) (wz.setCell ⟨b2, o2 + j, none⟩ (U8 x)) from fun wz hz x => by
            obtain ⟨ms', h1, h2⟩ := mails_u8 (x := x) ((hz.cell (lt_of_cell e3) id).trans e3) (hsl.ext EMailF.ok hz)
            exact ⟨ms', h1.trans hlr, h2, (hE.ext hz).trans ((Keep.refl (fun k => k = b2) wz).set1 _ _) fun k hk e => by omega⟩)
          have HLR := hid hlr
          have hn26 : n2 ≤ 60000 := HB6.out
          have hzf : wr.frozen? ⟨b2, o2 + j, none⟩ = false := by
            obtain ⟨t2, cur2, h2⟩ := hun b2 o2 _ _ rfl (by omega)
            exact h2.frozen _
          clear hun hcc hcc2 hbv hsl hsl2 hlr hE hz3 hz1
          go_wp2_with fail
          refine wp_region_parts [] [0, 1, 2, 3, 4, 5, 6, 7, 8, 9, 10, 11, 12, 13, 14, 15] [16] (specOf []) (fun w' => Ext wr w') stable_nil (stableC_ext _) (by kernel_rfl) (by kernel_rfl) (Keep.drew (Keep.refl _ _)) ?_
          refine pure_nil ?_
          iterate 16
            (try simp only [Act.put, List.setIfInBounds_toArray, List.set_cons_zero, List.set_cons_succ])
            refine growP_run rfl rfl rfl ?_
            apply Exists.intro
            refine ⟨fun w' hC hK => ?_, ?_⟩
            · have e2 := (hC.cell (lt_of_cell e2) id).trans e2
              have e3 := (hC.cell (lt_of_cell e3) id).trans e3
              go_simp
              rfl
          refine growP_nil fun wz hC hK => ?_
          have HC := hid (show Ext wr wz from hC)
          have k3 := (HC.out.cell (lt_of_cell e3) id).trans e3
          have kf : wz.frozen? ⟨b2, o2 + j, none⟩ = false := by rw [HC.out.frozen (lt_of_cell e3) id]; exact hzf
          clear hC hK e2 e3 hzf
          change wpList _ _ _ (_ :: []) _ _
          (try simp only [Act.put, List.setIfInBounds_toArray, List.set_cons_zero, List.set_cons_succ])
          go_wp2_with fail
          refine NoPanic.normal ?_
          have hx := xor_u8 y0 255
          rw [show ((255 : UInt8).toNat : Int) = 255 from rfl] at hx
          rw [hx]
          have HF := hid (HMU.out wz HC.out (y0 ^^^ 255))
          obtain ⟨wq, hwq⟩ : ∃ wq, wz.setCell ⟨b2, o2 + j, none⟩ (U8 (y0 ^^^ 255)) = wq := ⟨_, rfl⟩
          rw [hwq] at HF
          rw [show wz.setCell ⟨b2, o2 + j, none⟩ (.int .u8 ((y0 ^^^ 255).toNat : Int)) = wq from hwq]
          clear hx hwq HMU k3 kf HC HSL HE
          go_wp2
          exact ⟨⟨j + 1, by omega, by go_num, HF.out⟩, by simp [intOf]; omega⟩
        · obtain rfl : j = n2 := by omega
          have hX2 : ¬ (j : Int) < j := by omega
          clear hun hcc hbv hsl hsl2 hlr hE hz3
          go_wp2
          exact ⟨⟨i + 1, by omega, by go_num, HSL.out⟩, by simp [intOf]; omega⟩
    · obtain rfl : i = n1 := by omega
      have hX : ¬ (i : Int) < i := by omega
      have HP := hid (show Pair w0 wr bn rn g1 g2 ms ms from by obtain ⟨_, _, _, hE⟩ := HS.out; exact HT.out.more hE)
      clear HS
      go_wp2
      go_ret
      exact ⟨rfl, _, _, HP.out⟩
end Go.Proofs.Ytjpbfdkpkeaofaa
