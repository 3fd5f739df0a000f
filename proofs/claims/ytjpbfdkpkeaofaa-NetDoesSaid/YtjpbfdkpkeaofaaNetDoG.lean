/- Any calls on a network answer as the chapter says: the walk. -/
import Derived.Test.YtjpbfdkpkeaofaaNetDoF
set_option linter.unusedSimpArgs false
set_option linter.unusedVariables false
namespace Go.Proofs.Ytjpbfdkpkeaofaa
open Go.RowKit
set_option linter.unusedVariables false

def Does20 (w0 : World) (bn rn : Nat) (n : Nat) (e : Ending) (w' : World) : Prop := e = .returned (.bool true) ∧ ∃ a1 a2 ms, Pair w0 w' bn rn a1 a2 ms ms ∧ ms.length ≤ n + 1 ∧ ∀ m ∈ ms, m.b.length ≤ 60000
theorem DoneN.to {w0 w' : World} {bn rn n : Nat} {ms : List Mail} {e : Ending} (h : DoneN w0 bn rn ms e w') (hl : ms.length ≤ n + 1) (hb : ∀ m ∈ ms, m.b.length ≤ 60000) : Does20 w0 bn rn n e w' := by
  obtain ⟨h1, a1, a2, h2⟩ := h
  exact ⟨h1, a1, a2, ms, h2, hl, hb⟩
theorem does20_ok (w0 w : World) (bn rn : Nat) (g1 g2 : Option Nat) (ms : List Mail) (k : UInt8) (sess : Int) (up : Bool) (bv : Value) (z : Int) (b : List UInt8) (S2 : BS) (hbs : BytesS w S2 bv b) (hS2 : ∀ k, S2 k → k < w0.heap.size) (hm20 : ms.length < 2000) (hb6 : b.length ≤ 60000) (hby : ∀ m ∈ ms, m.b.length ≤ 60000) (h : Pair w0 w bn rn g1 g2 ms ms) :
    Calls Try.prog 14 #[.pointer (some ⟨bn, 0, none⟩), .pointer (some ⟨rn, 0, none⟩), .agg #[U8 k, .int .i64 sess, .bool up, bv, .int .i64 z]] w (Does20 w0 bn rn ms.length) := by
  obtain ⟨A, c, rfl, _, _⟩ := hbs.shape
  have hr : (z < 0 ∨ (ms.length : Int) ≤ z) ∨ ∃ i : Nat, i < ms.length ∧ z = (i : Int) := by
    by_cases h0 : z < 0 ∨ (ms.length : Int) ≤ z
    · exact .inl h0
    · exact .inr ⟨z.toNat, by omega, by omega⟩
  have he : ∀ i, (ms.eraseIdx i).length ≤ ms.length + 1 := fun i => Nat.le_trans (List.length_eraseIdx_le _ _) (Nat.le_succ _)
  by_cases h3 : k.toNat % 9 = 3
  · rcases hr with hr | ⟨i, hi, hz⟩
    · exact (does_take_no w0 w bn rn g1 g2 ms k sess up A _ c z h3 hr h).mono fun e w' h => h.to (Nat.le_succ _) hby
    · exact (does_take w0 w bn rn g1 g2 ms k sess up A _ c z h3 i hi hm20 hz _ rfl h).mono fun e w' h => h.to (he i) fun m hm => hby m (List.mem_of_mem_eraseIdx hm)
  by_cases h4 : k.toNat % 9 = 4
  · rcases hr with hr | ⟨i, hi, hz⟩
    · exact (does_drop_no w0 w bn rn g1 g2 ms k sess up A _ c z h4 hr h).mono fun e w' h => h.to (Nat.le_succ _) hby
    · exact (does_drop w0 w bn rn g1 g2 ms k sess up A _ c z h4 i hi hm20 hz _ rfl h).mono fun e w' h => h.to (he i) fun m hm => hby m (List.mem_of_mem_eraseIdx hm)
  by_cases h5 : k.toNat % 9 = 5
  · rcases hr with hr | ⟨i, hi, hz⟩
    · exact (does_twice_no w0 w bn rn g1 g2 ms k sess up A _ c z h5 hr h).mono fun e w' h => h.to (Nat.le_succ _) hby
    · refine (does_twice w0 w bn rn g1 g2 ms k sess up A _ c z h5 i hi hm20 hz (hby _ (List.getElem_mem _)) _ rfl h).mono fun e w' h => h.to ?_ fun m hm => ?_
      · rw [List.length_append, List.length_cons, List.length_take, List.length_drop]; omega
      · rcases List.mem_append.1 hm with hm | hm
        · exact hby m (List.mem_of_mem_take hm)
        · rcases List.mem_cons.1 hm with rfl | hm
          · exact hby _ (List.getElem_mem _)
          · exact hby m (List.mem_of_mem_drop hm)
  by_cases h6 : k.toNat % 9 = 6
  · rcases hr with hr | ⟨i, hi, hz⟩
    · exact (does_late_no w0 w bn rn g1 g2 ms k sess up A _ c z h6 hr h).mono fun e w' h => h.to (Nat.le_succ _) hby
    · refine (does_late w0 w bn rn g1 g2 ms k sess up A _ c z h6 i hi hm20 hz _ rfl h).mono fun e w' h => h.to ?_ fun m hm => ?_
      · rw [List.length_append]; have := List.length_eraseIdx_le ms i; simp; omega
      · rcases List.mem_append.1 hm with hm | hm
        · exact hby m (List.mem_of_mem_eraseIdx hm)
        · simp at hm; subst hm; exact hby _ (List.getElem_mem _)
  by_cases h7 : k.toNat % 9 = 7
  · exact (does_cut w0 w bn rn g1 g2 ms k sess up A _ c z h7 hm20 _ rfl h).mono fun e w' h => h.to (Nat.le_trans (List.length_filter_le _ _) (Nat.le_succ _)) fun m hm => hby m (List.mem_filter.1 hm).1
  by_cases h8 : k.toNat % 9 = 8
  · exact (does_all w0 w bn rn g1 g2 ms k sess up A _ c z h8 hm20 hby h).mono fun e w' h => h.to (Nat.le_succ _) hby
  refine (does_send w0 w bn rn g1 g2 ms k sess up A _ c z b S2 hbs hS2 (k.toNat % 9) (by omega) rfl hm20 hb6 h).mono fun e w' h => h.to (by simp) fun m hm => ?_
  rcases List.mem_append.1 hm with hm | hm
  · exact hby m hm
  · simp at hm; subst hm; exact hb6

theorem eql_pnet (w : World) (p : Option Addr) : (Go.binOp .eql 25 (.pointer p) (.pointer none)).run Try.prog w = .ok (.bool p.isNone) w := run_eql_pointer_nil w _ p (by kernel_rfl)
set_option maxRecDepth 20000 in
set_option maxHeartbeats 1600000 in
theorem does20_walk (lv : Value) (l : List LOp) (w : World) (hl : Sl EOp w (fun k => k < w.heap.size) lv l) (hR : ∀ o ∈ l, o.b.length ≤ reachBytes) :
    Calls Try.prog 4 #[lv] w fun e w' => e = .returned (.bool true) ∧ Ext w w' := by
  obtain ⟨A1, c1, rfl, hc1, hm1⟩ := hl.shape
  unfold maxLen at hm1
  have HL := hid hl
  have HRR := hid hR
  have hpe := eql_pnet
  clear hl hR
  obtain ⟨m, hm⟩ : ∃ m, l.length = m := ⟨_, rfl⟩
  rw [hm] at hc1 ⊢
  have HM := hid hm
  have HLM := hid (show Sl EOp w (fun k => k < w.heap.size) (.slice A1 m c1) l from by rw [← hm]; exact HL.out)
  clear hm HL
  go_enter Try.func4, Try.ntmps4
  go_wp2_with fail
  refine (heavy_small _ _ _ _ HLM.out HRR.out).mono ?_
  rintro e w1 ⟨hb, rfl⟩
  rcases hb with rfl | ⟨rfl, hnh⟩
  · go_wp2_with fail
    refine (known_any _).mono ?_
    rintro e w2 ⟨rfl, hz⟩
    have HZ := hid hz
    clear hz
    go_wp2
    go_ret
    exact ⟨rfl, HZ.out⟩
  · have HNH := hid hnh
    clear hnh
    go_wp2_with fail
    refine (known_any _).mono ?_
    rintro e w2 ⟨rfl, hE⟩
    have HEW := hid hE
    clear hE
    go_wp2_with fail
    refine (new_ok w2).mono ?_
    rintro e w3 ⟨rfl, hn, hE⟩
    have HN := hid hn
    have HE3 := hid hE
    clear hn hE
    go_wp2_with fail
    refine (rnew_ok w3).mono ?_
    rintro e w4 ⟨rfl, hr, hE⟩
    have h0 := HEW.out.size
    have h1 := HE3.out.size
    have h2 := HN.out.lt.1
    have HP := hid (show Pair w w4 w2.heap.size w3.heap.size none none [] [] from
      ⟨(HN.out.ext hE).more (fun _ _ h => h.elim) (fun x => x.1 rfl) (fun k e => by cases e), hr.more (fun _ _ h => h.elim) (fun x => x.2.1 rfl) (fun k e => by cases e),
        ⟨by omega, by simp, by simp, fun k e => by cases e⟩, ⟨h0, by omega, fun k e => (by cases e), fun k e => (by cases e)⟩, (HEW.out.ext HE3.out).ext hE⟩)
    clear hr hE HN HE3 HEW h0 h1 h2
    generalize w2.heap.size = bn at *
    generalize w3.heap.size = rn at *
    go_wp2_with fail
    go_loopw [5] (fun y wr => ∃ (i : Nat) (g1 g2 : Option Nat) (ms : List Mail), i ≤ m ∧ y = .int .i64 i ∧ Pair w wr bn rn g1 g2 ms ms ∧ ms.length ≤ i ∧ ∀ x ∈ ms, x.b.length ≤ 60000) (fun y _ => m - (intOf y).toNat)
    case atStart => exact ⟨0, _, _, [], by omega, rfl, HP.out, Nat.le_refl _, fun x hx => by cases hx⟩
    case round =>
      clear HP
      obtain ⟨i, g1, g2, ms, hi, rfl, hP, hms, hby⟩ := hrel
      have HP := hid hP
      have HMS := hid hms
      have HBY := hid hby
      clear hP hms hby
      by_cases hlt : i < m
      · have hil : i < l.length := by rw [HM.out]; exact hlt
        obtain ⟨b, off, c0, rfl, hbw, _, ⟨bv, rfl, hu⟩, hc⟩ := (HLM.out.ext EOp.ok HP.out.ext).at_ EOp.ok hil
        obtain ⟨A2, c2, rfl, hc2, _⟩ := hu.shape
        have q0 := hc 0 _ rfl
        have q1 := hc 1 _ rfl
        have q2 := hc 2 _ rfl
        have q3 := hc 3 _ rfl
        have q4 := hc 4 _ rfl
        have e5 : EOp.size = 5 := rfl
        simp only [e5, Nat.add_zero] at q0 q1 q2 q3 q4
        have HQO := hid (HNH.out.2 _ (List.getElem_mem hil))
        have HI := hid (show i < 100 from by have := HNH.out.1; have := HM.out; omega)
        generalize l[i]'hil = o at *
        have HU := hid hu
        have hX : (i : Int) < m := by omega
        clear hc hu e5 hil
        go_wp2_with fail
        refine (does20_ok w wr bn rn g1 g2 ms o.kind o.sess o.up _ o.i o.b _ HU.out (fun k hk => hk) (by have := HMS.out; have := HI.out; omega) (by have := HQO.out; omega) HBY.out HP.out).mono ?_
        rintro e w5 ⟨rfl, a1, a2, ms', hP, hl', hby'⟩
        clear HP HU q0 q1 q2 q3 q4 HBY
        have HP := hid hP
        have HL' := hid (show ms'.length ≤ i + 1 from by have := HMS.out; omega)
        have HBY' := hid hby'
        clear hP hl' hby'
        obtain ⟨va, hb, _, hown, _, _⟩ := HP.out.ref
        obtain ⟨A3, c3, rfl, hl3, hc3⟩ := hown.shape
        have d0 := hb.cell 0
        simp at d0
        have HSL := hid (hown.sl EMail.ok)
        clear hb hown
        go_wp2_with fail
        refine wp_region_parts [] [0, 1, 2, 3, 4, 5, 6, 7, 8, 9, 10, 11] [] (specOf [(4, fun v w' => SlShape EMail w' (fun k => w5.heap.size ≤ k) v ms'.length ms'), (9, fun v w' => v = .bool true)]) (fun w' => Ext w5 w') (stable_cons (fun v w w' h he => h.ext EMail.ok he) (stable_cons (fun v w w' h he => h) stable_nil)) (stableC_ext _) (by kernel_rfl) (by kernel_rfl) (Keep.drew (Keep.refl _ _)) ?_
        refine pure_nil ?_
        iterate 4
          (try simp only [Act.put, List.setIfInBounds_toArray, List.set_cons_zero, List.set_cons_succ])
          refine growP_run rfl rfl rfl ?_
          apply Exists.intro
          refine ⟨fun w' hC hK => ?_, ?_⟩
          · go_simp
            rfl
        (try simp only [Act.put, List.setIfInBounds_toArray, List.set_cons_zero, List.set_cons_succ])
        refine growP_eff rfl rfl rfl (fun w' hC hK => ?_) (fun v4 hv4 => ?_)
        · unfold growAt
          go_simp
          refine grow_call ((all_ok _ _ bn a1 ms' (HP.out.net.ext hC) (by have := HL'.out; have := HI.out; omega) HBY'.out).mono ?_)
          rintro e w'' ⟨v', rfl, h1, h2⟩
          obtain ⟨Ax, cx, rfl, _⟩ := h1.shape
          exact ⟨_, rfl, h2, Ax, cx, rfl, h1.more EMail.ok fun k _ h => Nat.le_trans hC.size h⟩
        obtain ⟨_, _, A4, c4, rfl, _⟩ := hv4.head
        iterate 4
          (try simp only [Act.put, List.setIfInBounds_toArray, List.set_cons_zero, List.set_cons_succ])
          refine growP_run rfl rfl rfl ?_
          apply Exists.intro
          refine ⟨fun w' hC hK => ?_, ?_⟩
          · have d0 := (hC.cell (lt_of_cell d0) id).trans d0
            go_simp
            rfl
        (try simp only [Act.put, List.setIfInBounds_toArray, List.set_cons_zero, List.set_cons_succ])
        refine growP_eff rfl rfl rfl (fun w' hC hK => ?_) (fun v9 hv9 => ?_)
        · have h4 := hK.get (i := 4) List.mem_cons_self (by kernel_rfl)
          obtain ⟨Ax, cx, ex, hx⟩ := h4
          injection ex with x1 x2 x3
          subst x1 x3
          unfold growAt
          go_simp
          refine grow_call ((same_yes _ _ _ _ _ ms' hx (HSL.out.ext EMail.ok hC)).mono ?_)
          rintro e w'' ⟨rfl, h2⟩
          exact ⟨_, rfl, h2, rfl⟩
        obtain ⟨_, _, rfl⟩ := hv9.head
        iterate 2
          (try simp only [Act.put, List.setIfInBounds_toArray, List.set_cons_zero, List.set_cons_succ])
          refine growP_run rfl rfl rfl ?_
          apply Exists.intro
          refine ⟨fun w' hC hK => ?_, ?_⟩
          · go_simp
            rfl
        refine growP_nil fun wz hC hK => ?_
        have HPZ := hid (HP.out.more (show Ext w5 wz from hC))
        clear hC hK d0
        change wpList _ _ _ [] _ _
        (try simp only [Act.put, List.setIfInBounds_toArray, List.set_cons_zero, List.set_cons_succ])
        refine NoPanic.normal ?_
        go_wp2
        exact ⟨⟨i + 1, _, _, _, by omega, by go_num, HPZ.out, HL'.out, HBY'.out⟩, by simp [intOf]; omega⟩
      · obtain rfl : i = m := by omega
        have HEZ := hid HP.out.ext
        have hX : ¬ (i : Int) < i := by omega
        go_wp2
        go_ret
        exact ⟨rfl, HEZ.out⟩
theorem does20_lift {Q0 : Prop} (lv : Value) (l : List LOp) (w : World) (h1 : Sl EOp w (fun k => k < w.heap.size) lv l) (q1 : Q0 ∧ ∀ o ∈ l, o.b.length ≤ reachBytes) :
    Calls Try.prog 4 #[lv] w fun e w' => e = .returned (.bool true) ∧ Below w.heap.size w w' :=
  (does20_walk lv l w h1 q1.2).mono fun e w' h => ⟨h.1, h.2.toBelow⟩
end Go.Proofs.Ytjpbfdkpkeaofaa
