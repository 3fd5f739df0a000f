/- Any calls on a disk answer as the chapter says: the walk. -/
import Derived.Test.YtikophoopapngaaRDW
import Derived.Test.YtikophoopapngaaDiskK
import Derived.Test.YtikophoopapngaaDiskQ
import Derived.Test.YtikophoopapngaaDiskR2
set_option linter.unusedSimpArgs false
set_option linter.unusedVariables false
namespace Go.Proofs.Ytikophoopapngaa
open Go.RowKit Go.Maps
set_option linter.unusedVariables false

def TwoNew (w0 : World) (room : Int) (d r : Nat) (w : World) : Prop := ∃ B1 B2, Twin w0 w B1 B2 d r [] ⟨room.toNat, false, -1⟩
theorem twin_new {w0 w1 w2 w3 : World} {d r : Nat} {s : DSt} (h0 : Ext w0 w1) (hd : DiskIs w2 (fun k => w1.heap.size ≤ k ∧ k < w2.heap.size) d [] s) (h1 : Ext w1 w2) (hr : RdIs w3 (fun k => w2.heap.size ≤ k ∧ k < w3.heap.size) r [] s) (h2 : Ext w2 w3) : Twin w0 w3 (fun k => w1.heap.size ≤ k ∧ k < w2.heap.size) (fun k => w2.heap.size ≤ k ∧ k < w3.heap.size) d r [] s := by
  have s0 := h0.size
  have s1 := h1.size
  have s2 := h2.size
  exact ⟨⟨hd.ext h2, fun k hk => ⟨by omega, by omega⟩, (h0.ext h1).ext h2⟩, hr, fun k hk => ⟨by omega, by omega⟩, ⟨List.Pairwise.nil, fun c hc => by cases hc⟩, fun k ha hb => by omega⟩
set_option maxRecDepth 20000 in
set_option maxHeartbeats 12800000 in
theorem does13_walk (hN : NamesAll) (z : Int) (hz : (Lit.int .i64 z).wf = true) (lv : Value) (l : List DOp) (w : World) (hl : Sl EDOp w (fun k => k < w.heap.size) lv l) (hq : ∀ o ∈ l, o.name.size ≤ maxLen ∧ o.b.length ≤ 140737488355328) (hqn : ∀ o ∈ l, (Lit.int .i64 o.n).wf = true) :
    Calls Try.prog 7 #[.int .i64 z, lv] w fun e w' => e = .returned (.bool true) ∧ Ext w w' := by
  obtain ⟨A1, c1, rfl, hc1, hm1⟩ := hl.shape
  unfold maxLen at hm1
  have HL := hid hl
  have HQ := hid hq
  have HQN := hid hqn
  have HNA := hid hN
  clear hN hqn
  have HEND := hid (show ∀ wx, Ext w wx → Calls Try.prog 9 #[] wx fun e w' => e = .returned (.bool true) ∧ Ext w w' from fun wx h => (known13_ok wx).mono fun e w' h2 => ⟨h2.1, h.ext h2.2⟩)
  have HEW := hid (Keep.refl (fun _ => False) w)
  clear hl hq hz
  have hpe := eql_pdsk
  obtain ⟨m, hm⟩ : ∃ m, l.length = m := ⟨_, rfl⟩
  rw [hm] at hc1 ⊢
  have HM := hid hm
  have HLM := hid (show Sl EDOp w (fun k => k < w.heap.size) (.slice A1 m c1) l from by rw [← hm]; exact HL.out)
  clear hm HL
  go_enter Try.func7, Try.ntmps7
  go_wp2_with fail
  refine (heavy13_ok _ _ _ _ HLM.out).mono ?_
  rintro e w1 ⟨b1, rfl, hb, hE⟩
  clear hb
  replace HEW := hid (HEW.out.ext hE)
  clear hE
  cases b1 with
  | true =>
    go_wp2_with fail
    refine (HEND.out _ HEW.out).mono ?_
    rintro e w2 ⟨rfl, hz⟩
    have HZ := hid hz
    clear hz
    go_wp2
    go_ret
    exact ⟨rfl, HZ.out⟩
  | false =>
    go_wp2_with fail
    refine (known13_ok _).mono ?_
    rintro e w2 ⟨rfl, hE⟩
    replace HEW := hid (HEW.out.ext hE)
    clear hE HEND
    go_wp2_with fail
    refine (disk_new w2 z).mono ?_
    intro e w3 h3
    unfold NewIs at h3
    by_cases hzr : 0 ≤ z ∧ z ≤ 1048576
    · rw [if_pos hzr] at h3
      obtain ⟨d, rfl, _, hd, hE1⟩ := h3
      have HD := hid hd
      have HE1 := hid hE1
      clear hd hE1
      go_wp2_with fail
      refine (ref_new w3 z).mono ?_
      intro e w4 h4
      unfold RNewIs at h4
      rw [if_pos hzr] at h4
      obtain ⟨r, rfl, hr, hE2⟩ := h4
      have HT := hid (twin_new HEW.out HD.out HE1.out hr hE2)
      clear hr hE2 HD HE1 HEW hzr
      go_wp2_with fail
      go_loopw [7] (fun y wr => ∃ (i : Nat) (B1 B2 : BS) (cs : List DC) (s : DSt), i ≤ m ∧ y = .int .i64 i ∧ Twin w wr B1 B2 d r cs s) (fun y _ => m - (intOf y).toNat)
      case atStart => exact ⟨0, _, _, _, _, by omega, rfl, HT.out⟩
      case round =>
        clear HT
        obtain ⟨i, B1, B2, cs, s, hi, rfl, hT⟩ := hrel
        have HT := hid hT
        clear hT
        by_cases hlt : i < m
        · have hil : i < l.length := by rw [HM.out]; exact hlt
          obtain ⟨b, off, c0, rfl, hbw, _, ⟨bv, rfl, hu⟩, hc⟩ := (HLM.out.ext EDOp.ok HT.out.disk.ext).at_ EDOp.ok hil
          obtain ⟨A2, c2, rfl, hc2, _⟩ := hu.shape
          have g0 := hc 0 _ rfl
          have g1 := hc 1 _ rfl
          have g2 := hc 2 _ rfl
          have g3 := hc 3 _ rfl
          have e4 : EDOp.size = 4 := rfl
          simp only [e4, Nat.add_zero] at g0 g1 g2 g3
          have HQO := hid (HQ.out _ (List.getElem_mem hil))
          have HQM := hid (HQN.out _ (List.getElem_mem hil))
          generalize l[i]'hil = o at *
          have HU := hid hu
          have hX : (i : Int) < m := by omega
          clear hc hu e4 hil
          go_wp2_with fail
          refine (does_ok w wr B1 B2 d r cs s o.kind o.name _ o.n o.b _ HU.out (fun k hk => hk) HQM.out HQO.out.1 HT.out).mono ?_
          rintro e w5 ⟨rfl, B3, B4, hT⟩
          replace HT := hid hT
          clear hT g0 g1 g2 g3
          generalize (doesR cs s o.kind.toNat o.name.data.toList o.b o.n) = x at *
          obtain ⟨cs2, s2⟩ := x
          replace HT : Hid (Twin w w5 B3 B4 d r cs2 s2) := HT
          go_wp2_with fail
          refine (same13_ok HNA.out w w5 B3 B4 d r cs2 s2 HT.out).mono ?_
          rintro e w6 ⟨rfl, B5, B6, hT⟩
          replace HT := hid hT
          clear hT HU HQO HQM
          go_wp2
          exact ⟨⟨i + 1, _, _, _, _, by omega, by go_num, HT.out⟩, by simp [intOf]; omega⟩
        · obtain rfl : i = m := by omega
          have HEZ := hid HT.out.disk.ext
          have hX : ¬ (i : Int) < i := by omega
          go_wp2
          go_ret
          exact ⟨rfl, HEZ.out⟩
    · rw [if_neg hzr] at h3
      obtain ⟨rfl, hE1⟩ := h3
      replace HEW := hid (HEW.out.ext hE1)
      clear hE1
      go_wp2_with fail
      refine (ref_new w3 z).mono ?_
      intro e w4 h4
      unfold RNewIs at h4
      rw [if_neg hzr] at h4
      obtain ⟨rfl, hE2⟩ := h4
      replace HEW := hid (HEW.out.ext hE2)
      clear hE2 hzr
      go_wp2
      go_ret
      exact ⟨rfl, HEW.out⟩
theorem dop_op2 {H : Type} {enc : TypeId × Value → H} {W : World} {spare : Nat → Bool} {held : Bool} : Opens EDOp enc Try.prog W spare held 42 (fun o => (o.name.size ≤ reachBytes ∧ o.b.length ≤ reachBytes) ∧ (Lit.int .i64 o.n).wf = true) := by
  refine (opens_struct Try.underlying42 (by kernel_rfl) (fop_cons rfl (opens_u8 Try.underlying5 (by kernel_rfl)) (fop_cons rfl (opens_str Try.underlying9 (by kernel_rfl))
    (fop_cons rfl (opens_slice EU8.ok Try.underlying23 (by kernel_rfl) (opens_u8 Try.underlying5 (by kernel_rfl))) (fop_one rfl (opens_int Try.underlying3 (by kernel_rfl))))))).map rfl (fun x => ⟨x.1, x.2.1, x.2.2.1, x.2.2.2⟩) ?_ ?_
  · rintro w S cs x ⟨c1, _, rfl, h1, c2, _, rfl, h2, c4, c5, rfl, ⟨bv, h4, h4'⟩, h5⟩
    exact ⟨bv, by rw [show c1 = _ from h1, show c2 = _ from h2, h4, show c5 = _ from h5]; rfl, h4'⟩
  · rintro x ⟨_, hs, ⟨h, _⟩, hw⟩
    have e : Try.prog.bytesOf 5 = 1 := by kernel_rfl
    rw [e, Nat.mul_one] at h
    exact ⟨⟨hs, h⟩, hw⟩
theorem does13_lift {Q0 : Prop} (z : Int) (lv : Value) (l : List DOp) (w : World) (hz : (Lit.int .i64 z).wf = true) (h1 : Sl EDOp w (fun k => k < w.heap.size) lv l) (q1 : Q0 ∧ ∀ o ∈ l, (o.name.size ≤ reachBytes ∧ o.b.length ≤ reachBytes) ∧ (Lit.int .i64 o.n).wf = true) :
    Calls Try.prog 7 #[.int .i64 z, lv] w fun e w' => e = .returned (.bool true) ∧ Below w.heap.size w w' :=
  (does13_walk names_ok z hz lv l w h1 (fun o ho => by have := (q1.2 o ho).1; unfold reachBytes at this; unfold maxLen; omega) fun o ho => (q1.2 o ho).2).mono fun e w' h => ⟨h.1, h.2.toBelow⟩
end Go.Proofs.Ytikophoopapngaa
