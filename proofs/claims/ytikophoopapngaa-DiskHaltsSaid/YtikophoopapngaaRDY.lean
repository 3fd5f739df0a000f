/- A halted disk does nothing more: the walk. -/
import Derived.Test.YtikophoopapngaaRDX
set_option linter.unusedSimpArgs false
set_option linter.unusedVariables false
namespace Go.Proofs.Ytikophoopapngaa
open Go.RowKit Go.Maps
set_option linter.unusedVariables false

theorem left_zero {s : DSt} (h : s.left = 0) : { s with left := leftC s.left } = s := by
  obtain ⟨a, b, c⟩ := s
  obtain rfl : c = 0 := h
  rfl
theorem app_zero {cs : List DC} {s : DSt} (h : s.left = 0) (nm b : List UInt8) : appR cs s nm b = (130, cs) := by unfold appR fullC goesC; rw [h]; rfl
theorem sync_zero {cs : List DC} {s : DSt} (h : s.left = 0) (nm : List UInt8) : syncR cs s nm = (130, cs) := by unfold syncR goesC; rw [h]; rfl
theorem cut_zero {cs : List DC} {s : DSt} (h : s.left = 0) (nm : List UInt8) (n : Int) : cutR cs s nm n = (130, cs) := by unfold cutR goesC; rw [h]; rfl
theorem drop_zero {cs : List DC} {s : DSt} (h : s.left = 0) (nm : List UInt8) : dropR cs s nm = (130, cs) := by unfold dropR goesC; rw [h]; rfl
theorem app_tilde {cs : List DC} {s : DSt} (h : DOk cs ⟨s.room, false, -1⟩) (hl : cs.length < 64) : (appR cs ⟨s.room, false, -1⟩ (ByteArray.mk #[126]).data.toList []).1 = 0 := by
  have hu : usedC cs ≤ s.room := h.used
  unfold appR
  rw [if_neg (by unfold fullC goesC; simp; omega)]
  split
  · rfl
  · rw [if_pos (by unfold mayC; simp; omega)]
/-- The disk stands, in blocks of B1 or newer than W; nothing else has changed since W. -/
def Still (W : World) (B1 : BS) (d : Nat) (cs : List DC) (s : DSt) (w : World) : Prop := Keep B1 W w ∧ ∃ C, DiskIs w C d cs s ∧ ∀ k, C k → (B1 k ∨ W.heap.size ≤ k) ∧ k < w.heap.size
section
variable {W w w' : World} {B1 : BS} {d : Nat} {cs : List DC} {s : DSt}
theorem Still.ext (h : Still W B1 d cs s w) (he : Ext w w') : Still W B1 d cs s w' := by
  obtain ⟨h1, C, h2, h3⟩ := h
  exact ⟨h1.trans he fun k _ hf => hf.elim, C, h2.ext he, fun k hk => ⟨(h3 k hk).1, Nat.lt_of_lt_of_le (h3 k hk).2 he.size⟩⟩
theorem Still.step {C : BS} (h1 : Keep B1 W w) (h3 : ∀ k, C k → (B1 k ∨ W.heap.size ≤ k) ∧ k < w.heap.size) (hk : Keep C w w') (hd : DiskIs w' (moreB C w w') d cs s) : Still W B1 d cs s w' := by
  refine ⟨h1.trans hk fun k hk hf => ?_, _, hd, fun k hk' => ?_⟩
  · rcases (h3 k hf).1 with h | h
    · exact h
    · omega
  · have := h1.size
    have := hk.size
    rcases hk' with h | h
    · exact ⟨(h3 k h).1, by have := (h3 k h).2; omega⟩
    · exact ⟨.inr (by omega), h.2⟩
theorem Still.step' {C : BS} (h1 : Keep B1 W w) (h3 : ∀ k, C k → (B1 k ∨ W.heap.size ≤ k) ∧ k < w.heap.size) (hk : Keep C w w') (hd : DiskIs w' C d cs s) : Still W B1 d cs s w' :=
  Still.step h1 h3 hk (hd.more fun _ _ h => .inl h)
theorem Still.app (h : Still W B1 d cs s w) (h0 : s.left = 0) (name : ByteArray) (bv : Value) (b : List UInt8) (S2 : BS) (hb : BytesS w S2 bv b) (hz : name.size ≤ maxLen) :
    Calls Try.prog 11 #[.pointer (some ⟨d, 0, none⟩), .string name, bv] w fun e w' => e = .returned (.int .u16 130) ∧ Still W B1 d cs s w' := by
  obtain ⟨h1, C, h2, h3⟩ := h
  refine (disk_append w C d cs s name bv b S2 h2 hb hz).mono ?_
  rintro e w' ⟨rfl, g1, g2⟩
  rw [app_zero h0, left_zero h0] at g1
  exact ⟨by rw [app_zero h0], Still.step h1 h3 g2 g1⟩
theorem Still.sync (h : Still W B1 d cs s w) (h0 : s.left = 0) (name : ByteArray) (hz : name.size ≤ maxLen) :
    Calls Try.prog 12 #[.pointer (some ⟨d, 0, none⟩), .string name] w fun e w' => e = .returned (.int .u16 130) ∧ Still W B1 d cs s w' := by
  obtain ⟨h1, C, h2, h3⟩ := h
  refine (disk_sync w C d cs s name h2 hz).mono ?_
  rintro e w' ⟨rfl, g1, g2⟩
  rw [sync_zero h0, left_zero h0] at g1
  exact ⟨by rw [sync_zero h0], Still.step' h1 h3 g2 g1⟩
theorem Still.cut (h : Still W B1 d cs s w) (h0 : s.left = 0) (name : ByteArray) (n : Int) (hz : name.size ≤ maxLen) :
    Calls Try.prog 15 #[.pointer (some ⟨d, 0, none⟩), .string name, .int .i64 n] w fun e w' => e = .returned (.int .u16 130) ∧ Still W B1 d cs s w' := by
  obtain ⟨h1, C, h2, h3⟩ := h
  refine (disk_cut w C d cs s name n h2 hz).mono ?_
  rintro e w' ⟨rfl, g1, g2⟩
  rw [cut_zero h0, left_zero h0] at g1
  exact ⟨by rw [cut_zero h0], Still.step' h1 h3 g2 g1⟩
theorem Still.drop (h : Still W B1 d cs s w) (h0 : s.left = 0) (name : ByteArray) (hz : name.size ≤ maxLen) :
    Calls Try.prog 23 #[.pointer (some ⟨d, 0, none⟩), .string name] w fun e w' => e = .returned (.int .u16 130) ∧ Still W B1 d cs s w' := by
  obtain ⟨h1, C, h2, h3⟩ := h
  refine (disk_drop w C d cs s name h2 hz).mono ?_
  rintro e w' ⟨rfl, g1, g2⟩
  rw [drop_zero h0, left_zero h0] at g1
  exact ⟨by rw [drop_zero h0], Still.step' h1 h3 g2 g1⟩
theorem Still.halted (h : Still W B1 d cs s w) (h0 : s.left = 0) :
    Calls Try.prog 24 #[.pointer (some ⟨d, 0, none⟩)] w fun e w' => e = .returned (.bool true) ∧ Still W B1 d cs s w' := by
  obtain ⟨C, h2, h3⟩ := h.2
  refine (disk_halted w C d cs s h2).mono ?_
  rintro e w' ⟨rfl, rfl⟩
  exact ⟨by rw [h0]; rfl, h⟩
end
set_option maxRecDepth 20000 in
set_option maxHeartbeats 12800000 in
theorem halts13_walk (hN : NamesAll) (lv : Value) (l : List DOp) (l2v : Value) (l2 : List DOp) (w : World) (hl : Sl EDOp w (fun k => k < w.heap.size) lv l) (hq : ∀ o ∈ l, o.name.size ≤ maxLen ∧ o.b.length ≤ 140737488355328) (hqn : ∀ o ∈ l, (Lit.int .i64 o.n).wf = true) (hl2 : Sl EDOp w (fun k => k < w.heap.size) l2v l2) (hq2 : ∀ o ∈ l2, o.name.size ≤ maxLen ∧ o.b.length ≤ 140737488355328) :
    Calls Try.prog 8 #[lv, l2v] w fun e w' => e = .returned (.bool true) ∧ Ext w w' := by
  obtain ⟨A1, c1, rfl, hc1, hm1⟩ := hl.shape
  unfold maxLen at hm1
  have HL := hid hl
  obtain ⟨A2, k2, rfl, hk2, hm2⟩ := hl2.shape
  unfold maxLen at hm2
  have HL2 := hid hl2
  have HQ2 := hid hq2
  clear hl2 hq2
  have HQ := hid hq
  have HQN := hid hqn
  have HNA := hid hN
  clear hN hqn
  have HEND := hid (show ∀ wx, Ext w wx → Calls Try.prog 9 #[] wx fun e w' => e = .returned (.bool true) ∧ Ext w w' from fun wx h => (known13_ok wx).mono fun e w' h2 => ⟨h2.1, h.ext h2.2⟩)
  have HEW := hid (Keep.refl (fun _ => False) w)
  clear hl hq
  have hpe := eql_pdsk
  obtain ⟨m, hm⟩ : ∃ m, l.length = m := ⟨_, rfl⟩
  rw [hm] at hc1 ⊢
  have HM := hid hm
  have HLM := hid (show Sl EDOp w (fun k => k < w.heap.size) (.slice A1 m c1) l from by rw [← hm]; exact HL.out)
  clear hm HL
  obtain ⟨m2, hm2'⟩ : ∃ m2, l2.length = m2 := ⟨_, rfl⟩
  rw [hm2'] at hk2 ⊢
  have HM2 := hid hm2'
  have HLM2 := hid (show Sl EDOp w (fun k => k < w.heap.size) (.slice A2 m2 k2) l2 from by rw [← hm2']; exact HL2.out)
  clear hm2' HL2
  go_enter Try.func8, Try.ntmps8
  go_wp2_with fail
  refine (heavy13_ok _ _ _ _ HLM.out).mono ?_
  rintro e w1 ⟨b1, rfl, hb, hE⟩
  clear hb
  replace HEW := hid (HEW.out.ext hE)
  clear hE
  cases b1 with
  | true =>
    go_wp2_with fail
    refine (HEND.out _ HEW.out).mono ?_
    rintro e w2 ⟨rfl, hz⟩
    have HZ := hid hz
    clear hz
    go_wp2
    go_ret
    exact ⟨rfl, HZ.out⟩
  | false =>
    go_wp2_with fail
    refine (heavy13_ok _ _ _ _ (HLM2.out.ext EDOp.ok HEW.out)).mono ?_
    rintro e w1b ⟨b2, rfl, hb, hE⟩
    clear hb
    replace HEW := hid (HEW.out.ext hE)
    clear hE
    cases b2 with
    | true =>
      go_wp2_with fail
      refine (HEND.out _ HEW.out).mono ?_
      rintro e w2 ⟨rfl, hz⟩
      have HZ := hid hz
      clear hz
      go_wp2
      go_ret
      exact ⟨rfl, HZ.out⟩
    | false =>
      go_wp2_with fail
      refine (known13_ok _).mono ?_
      rintro e w2 ⟨rfl, hE⟩
      replace HEW := hid (HEW.out.ext hE)
      clear hE HEND
      go_wp2_with fail
      refine (disk_new w2 5000).mono ?_
      intro e w3 h3
      unfold NewIs at h3
      rw [if_pos (by decide)] at h3
      obtain ⟨d, rfl, _, hd, hE1⟩ := h3
      have HD := hid hd
      have HE1 := hid hE1
      clear hd hE1
      go_wp2_with fail
      refine (ref_new w3 5000).mono ?_
      intro e w4 h4
      unfold RNewIs at h4
      rw [if_pos (by decide)] at h4
      obtain ⟨r, rfl, hr, hE2⟩ := h4
      have HT := hid (twin_new HEW.out HD.out HE1.out hr hE2)
      clear hr hE2 HD HE1 HEW
      go_wp2_with fail
      go_loopw [7] (fun y wr => ∃ (i : Nat) (B1 B2 : BS) (cs : List DC) (s : DSt), i ≤ m ∧ y = .int .i64 i ∧ Twin w wr B1 B2 d r cs s) (fun y _ => m - (intOf y).toNat)
      case atStart => exact ⟨0, _, _, _, _, by omega, rfl, HT.out⟩
      case round =>
        clear HT
        obtain ⟨i, B1, B2, cs, s, hi, rfl, hT⟩ := hrel
        have HT := hid hT
        clear hT
        by_cases hlt : i < m
        · have hil : i < l.length := by rw [HM.out]; exact hlt
          obtain ⟨b, off, c0, rfl, hbw, _, ⟨bv, rfl, hu⟩, hc⟩ := (HLM.out.ext EDOp.ok HT.out.disk.ext).at_ EDOp.ok hil
          obtain ⟨A2, c2, rfl, hc2, _⟩ := hu.shape
          have g0 := hc 0 _ rfl
          have g1 := hc 1 _ rfl
          have g2 := hc 2 _ rfl
          have g3 := hc 3 _ rfl
          have e4 : EDOp.size = 4 := rfl
          simp only [e4, Nat.add_zero] at g0 g1 g2 g3
          have HQO := hid (HQ.out _ (List.getElem_mem hil))
          have HQM := hid (HQN.out _ (List.getElem_mem hil))
          generalize l[i]'hil = o at *
          have HU := hid hu
          have hX : (i : Int) < m := by omega
          clear hc hu e4 hil
          go_wp2_with fail
          refine (does_ok w wr B1 B2 d r cs s o.kind o.name _ o.n o.b _ HU.out (fun k hk => hk) HQM.out HQO.out.1 HT.out).mono ?_
          rintro e w5 ⟨rfl, B3, B4, hT⟩
          replace HT := hid hT
          clear hT g0 g1 g2 g3
          generalize (doesR cs s o.kind.toNat o.name.data.toList o.b o.n) = x at *
          obtain ⟨cs2, s2⟩ := x
          replace HT : Hid (Twin w w5 B3 B4 d r cs2 s2) := HT
          clear HU HQO HQM
          go_wp2
          exact ⟨⟨i + 1, _, _, _, _, by omega, by go_num, HT.out⟩, by simp [intOf]; omega⟩
        · obtain rfl : i = m := by omega
          have hX : ¬ (i : Int) < i := by omega
          clear HLM HQ HQN
          go_wp2_with fail
          refine (disk_halt _ B1 d cs s 0 rfl HT.out.disk.is).mono ?_
          rintro e w5 ⟨rfl, hd, hk⟩
          have hD := HT.out.disk.step hk hd
          have h0 : ({ s with left := max 0 (-1) } : DSt).left = 0 := rfl
          generalize ({ s with left := max 0 (-1) } : DSt) = s0 at *
          have HD := hid hD
          have H0 := hid h0
          clear HT hD h0 hd hk
          go_wp2_with fail
          refine (HNA.out _ _ _ _ _ HD.out.is).mono ?_
          rintro e w6 ⟨v6, rfl, hv, hE⟩
          obtain ⟨A6, k6, rfl, _⟩ := hv.shape
          have hvs := hv.more (S' := fun q => ¬ B1 q) EStr.ok fun q _ h hb => by have := (HD.out.low q hb).2; omega
          replace HD := hid (HD.out.more hE)
          have HV := hid hvs
          clear hv hvs hE
          go_wp2_with fail
          refine (disk_used' _ _ _ _ _ HD.out.is).mono ?_
          rintro e W ⟨rfl, hE⟩
          replace HD := hid (HD.out.more hE)
          replace HV := hid (HV.out.ext EStr.ok hE)
          have HS := hid (show Still W B1 d cs s0 W from ⟨Keep.refl _ _, B1, HD.out.is, fun k hk => ⟨.inl hk, (HD.out.low k hk).2⟩⟩)
          have HEW := hid HD.out.ext
          have HLO := hid (show ∀ k, k < w.heap.size → ¬ B1 k from fun k hk hb => by have := (HD.out.low k hb).1; omega)
          clear hE HD
          go_wp2_with fail
          go_loopw [10] (fun y wr => ∃ (i : Nat), i ≤ m2 ∧ y = .int .i64 i ∧ Still W B1 d cs s0 wr) (fun y _ => m2 - (intOf y).toNat)
          case atStart => exact ⟨0, by omega, rfl, HS.out⟩
          case round =>
            clear HS hX
            obtain ⟨i, hi, rfl, hS⟩ := hrel
            have HS := hid hS
            clear hS
            by_cases hlt : i < m2
            · have hil : i < l2.length := by rw [HM2.out]; exact hlt
              obtain ⟨b, off, c0, rfl, hbw, _, ⟨bv, rfl, hu⟩, hc⟩ := (HLM2.out.ext EDOp.ok HEW.out).at_ EDOp.ok hil
              obtain ⟨A5, c5, rfl, hc5, _⟩ := hu.shape
              have g1 := hc 1 _ rfl
              have g2 := hc 2 _ rfl
              have g3 := hc 3 _ rfl
              have e4 : EDOp.size = 4 := rfl
              simp only [e4] at g1 g2 g3
              have HQO := hid (HQ2.out _ (List.getElem_mem hil))
              generalize l2[i]'hil = o at *
              have HU := hid hu
              have hX : (i : Int) < m2 := by omega
              have HBW := hid (HLO.out b hbw)
              clear hc hu e4 hil
              go_wp2_with fail
              have HG1 := hid (show ∀ w', Still W B1 d cs s0 w' → w'.cell? ⟨b, off + i * 4 + 1, none⟩ = some (.string o.name) from fun w' h => (h.1.cell (lt_of_cell g1) HBW.out).trans g1)
              have HG2 := hid (show ∀ w', Still W B1 d cs s0 w' → w'.cell? ⟨b, off + i * 4 + 2, none⟩ = some (.slice A5 o.b.length c5) from fun w' h => (h.1.cell (lt_of_cell g2) HBW.out).trans g2)
              have HG3 := hid (show ∀ w', Still W B1 d cs s0 w' → w'.cell? ⟨b, off + i * 4 + 3, none⟩ = some (.int .i64 o.n) from fun w' h => (h.1.cell (lt_of_cell g3) HBW.out).trans g3)
              have HUU := hid (show ∀ w', Still W B1 d cs s0 w' → BytesS w' (fun k => k < w.heap.size) (.slice A5 o.b.length c5) o.b from fun w' h => HU.out.keep EU8.ok h.1 HLO.out)
              clear g1 g2 g3
              have hne : ((130 : Int) != 130) = false := rfl
              refine M.wp_region_once [] [0, 1, 2, 3, 4, 5, 6, 7, 8, 9, 10, 11, 12, 13, 14, 15, 16, 17, 18, 19, 20, 21, 22, 23, 24, 25, 26, 27, 28, 29, 30, 31, 32, 33, 34, 35, 36, 37, 38, 39, 40, 41, 42, 43, 44, 45, 46, 47, 48, 49, 50, 51, 52] []
                (M.specOf [(11, fun v _ => v = .int .u16 130), (20, fun v _ => v = .int .u16 130), (35, fun v _ => v = .int .u16 130), (45, fun v _ => v = .int .u16 130), (50, fun v _ => v = .bool true)]) (fun w' => Still W B1 d cs s0 w') (fun _ w1 w2 => Still W B1 d cs s0 w1 → Still W B1 d cs s0 w2) (fun _ _ => True)
                ?_ (fun _ _ _ h he => he h) (fun _ _ _ _ _ _ _ => trivial) (by kernel_rfl) (by kernel_rfl) (HS.out.ext (Keep.refl _ _).drew) (fun _ _ => trivial) ?_
              · exact M.stable_cons (fun _ _ _ _ _ h _ => h) (M.stable_cons (fun _ _ _ _ _ h _ => h) (M.stable_cons (fun _ _ _ _ _ h _ => h) (M.stable_cons (fun _ _ _ _ _ h _ => h) (M.stable_cons (fun _ _ _ _ _ h _ => h) M.stable_nil))))
              refine M.pure_nil ?_
              iterate 11
                (try simp only [Act.put, List.setIfInBounds_toArray, List.set_cons_zero, List.set_cons_succ])
                refine M.u_run rfl rfl rfl ?_
                apply Exists.intro
                refine ⟨fun w' hC hU hK => ?_, ?_⟩
                · have q1 := HG1.out w' hC
                  have q2 := HG2.out w' hC
                  go_simp
                  rfl
              (try simp only [Act.put, List.setIfInBounds_toArray, List.set_cons_zero, List.set_cons_succ])
              refine M.u_eff rfl rfl rfl (fun w' hC hU hK => ?_) (fun v11 hv11 => ?_)
              · unfold M.growAt
                go_simp
                refine M.grow_call ((Still.app hC H0.out o.name _ o.b _ (HUU.out _ hC) HQO.out.1).mono ?_)
                rintro e w'' ⟨rfl, h1⟩
                exact ⟨_, rfl, h1, rfl⟩
              obtain ⟨_, _, rfl⟩ := hv11
              iterate 8
                (try simp only [Act.put, List.setIfInBounds_toArray, List.set_cons_zero, List.set_cons_succ])
                refine M.u_run rfl rfl rfl ?_
                apply Exists.intro
                refine ⟨fun w' hC hU hK => ?_, ?_⟩
                · have q1 := HG1.out w' hC
                  go_simp
                  rfl
              (try simp only [Act.put, List.setIfInBounds_toArray, List.set_cons_zero, List.set_cons_succ])
              refine M.u_eff rfl rfl rfl (fun w' hC hU hK => ?_) (fun v20 hv20 => ?_)
              · unfold M.growAt
                go_simp
                refine M.grow_call ((Still.sync hC H0.out o.name HQO.out.1).mono ?_)
                rintro e w'' ⟨rfl, h1⟩
                exact ⟨_, rfl, h1, rfl⟩
              obtain ⟨_, _, rfl⟩ := hv20
              iterate 14
                (try simp only [Act.put, List.setIfInBounds_toArray, List.set_cons_zero, List.set_cons_succ])
                refine M.u_run rfl rfl rfl ?_
                apply Exists.intro
                refine ⟨fun w' hC hU hK => ?_, ?_⟩
                · have q1 := HG1.out w' hC
                  have q3 := HG3.out w' hC
                  go_simp
                  rfl
              (try simp only [Act.put, List.setIfInBounds_toArray, List.set_cons_zero, List.set_cons_succ])
              refine M.u_eff rfl rfl rfl (fun w' hC hU hK => ?_) (fun v35 hv35 => ?_)
              · unfold M.growAt
                go_simp
                refine M.grow_call ((Still.cut hC H0.out o.name o.n HQO.out.1).mono ?_)
                rintro e w'' ⟨rfl, h1⟩
                exact ⟨_, rfl, h1, rfl⟩
              obtain ⟨_, _, rfl⟩ := hv35
              iterate 9
                (try simp only [Act.put, List.setIfInBounds_toArray, List.set_cons_zero, List.set_cons_succ])
                refine M.u_run rfl rfl rfl ?_
                apply Exists.intro
                refine ⟨fun w' hC hU hK => ?_, ?_⟩
                · have q1 := HG1.out w' hC
                  go_simp
                  rfl
              (try simp only [Act.put, List.setIfInBounds_toArray, List.set_cons_zero, List.set_cons_succ])
              refine M.u_eff rfl rfl rfl (fun w' hC hU hK => ?_) (fun v45 hv45 => ?_)
              · unfold M.growAt
                go_simp
                refine M.grow_call ((Still.drop hC H0.out o.name HQO.out.1).mono ?_)
                rintro e w'' ⟨rfl, h1⟩
                exact ⟨_, rfl, h1, rfl⟩
              obtain ⟨_, _, rfl⟩ := hv45
              iterate 4
                (try simp only [Act.put, List.setIfInBounds_toArray, List.set_cons_zero, List.set_cons_succ])
                refine M.u_run rfl rfl rfl ?_
                apply Exists.intro
                refine ⟨fun w' hC hU hK => ?_, ?_⟩
                · go_simp
                  rfl
              (try simp only [Act.put, List.setIfInBounds_toArray, List.set_cons_zero, List.set_cons_succ])
              refine M.u_eff rfl rfl rfl (fun w' hC hU hK => ?_) (fun v50 hv50 => ?_)
              · unfold M.growAt
                go_simp
                refine M.grow_call ((Still.halted hC H0.out).mono ?_)
                rintro e w'' ⟨rfl, h1⟩
                exact ⟨_, rfl, h1, rfl⟩
              obtain ⟨_, _, rfl⟩ := hv50
              iterate 2
                (try simp only [Act.put, List.setIfInBounds_toArray, List.set_cons_zero, List.set_cons_succ])
                refine M.u_run rfl rfl rfl ?_
                apply Exists.intro
                refine ⟨fun w' hC hU hK => ?_, ?_⟩
                · go_simp
                  rfl
              refine M.u_nil fun wz hC hK => ?_
              have HZ := hid (show Still W B1 d cs s0 wz from hC)
              clear hC hK
              change wpList _ _ _ [] _ _
              (try simp only [Act.put, List.setIfInBounds_toArray, List.set_cons_zero, List.set_cons_succ])
              refine NoPanic.normal ?_
              go_wp2
              exact ⟨⟨i + 1, by omega, by go_num, HZ.out⟩, by simp [intOf]; omega⟩
            · obtain rfl : i = m2 := by omega
              have hX : ¬ (i : Int) < i := by omega
              have HK := hid HS.out.1
              obtain ⟨C, hd, hC⟩ := HS.out.2
              have HD := hid hd
              have HCB := hid hC
              clear HS hd hC
              clear HLM2
              go_wp2_with fail
              refine (HNA.out _ _ _ _ _ HD.out).mono ?_
              rintro e w8 ⟨v8, rfl, hv, hE⟩
              obtain ⟨A8, k8, rfl, _⟩ := hv.shape
              have HV8 := hid hv
              have HV6 := hid ((HV.out.keep EStr.ok HK.out fun q hq hb => hq hb).ext EStr.ok hE)
              replace HD := hid (HD.out.ext hE)
              replace HK := hid (HK.out.trans hE fun k _ hf => hf.elim)
              replace HCB := hid (show ∀ k, C k → (B1 k ∨ W.heap.size ≤ k) ∧ k < w8.heap.size from fun k hk => ⟨(HCB.out k hk).1, Nat.lt_of_lt_of_le (HCB.out k hk).2 hE.size⟩)
              clear hv hE
              go_wp2_with fail
              refine (texts_ok _ _ _ _ _ _ _ HV8.out HV6.out).mono ?_
              rintro e w9 ⟨rfl, hE⟩
              have hdt : decide (namesC cs = namesC cs) = true := by simp
              rw [hdt]
              replace HD := hid (HD.out.ext hE)
              replace HK := hid (HK.out.trans hE fun k _ hf => hf.elim)
              replace HCB := hid (show ∀ k, C k → (B1 k ∨ W.heap.size ≤ k) ∧ k < w9.heap.size from fun k hk => ⟨(HCB.out k hk).1, Nat.lt_of_lt_of_le (HCB.out k hk).2 hE.size⟩)
              clear hE hdt HV8 HV6 HV
              go_wp2_with fail
              refine (disk_used' _ _ _ _ _ HD.out).mono ?_
              rintro e w10 ⟨rfl, hE⟩
              replace HD := hid (HD.out.ext hE)
              replace HK := hid (HK.out.trans hE fun k _ hf => hf.elim)
              replace HCB := hid (show ∀ k, C k → (B1 k ∨ W.heap.size ≤ k) ∧ k < w10.heap.size from fun k hk => ⟨(HCB.out k hk).1, Nat.lt_of_lt_of_le (HCB.out k hk).2 hE.size⟩)
              clear hE
              have hus : ((usedC cs : Int) == (usedC cs : Int)) = true := by simp
              go_wp2_with fail
              refine (disk_crash _ C d cs s0 0 HD.out).mono ?_
              rintro e w11 ⟨rfl, hd, hk⟩
              have HD2 := hid hd
              have hs2 := hk.size
              have HK2 := hid (show Keep B1 W w11 from HK.out.trans hk fun k hk hf => (HCB.out k hf).1.elim id fun h => by omega)
              replace HCB := hid (show ∀ k, C k → (B1 k ∨ W.heap.size ≤ k) ∧ k < w11.heap.size from fun k hk => ⟨(HCB.out k hk).1, Nat.lt_of_lt_of_le (HCB.out k hk).2 hs2⟩)
              clear hd hk hs2 HD HK hus
              go_wp2_with fail
              refine (disk_halted _ C d _ _ HD2.out).mono ?_
              rintro e w12 ⟨rfl, rfl⟩
              have hneg : ((-1 : Int) == 0) = false := rfl
              go_wp2_with fail
              refine (HNA.out _ _ _ _ _ HD2.out).mono ?_
              rintro e w13 ⟨v9, rfl, hv, hE⟩
              obtain ⟨A9, k9, rfl, _⟩ := hv.shape
              rw [namesC_length, List.length_map]
              replace HD2 := hid (HD2.out.ext hE)
              replace HK2 := hid (HK2.out.trans hE fun k _ hf => hf.elim)
              replace HCB := hid (show ∀ k, C k → (B1 k ∨ W.heap.size ≤ k) ∧ k < w13.heap.size from fun k hk => ⟨(HCB.out k hk).1, Nat.lt_of_lt_of_le (HCB.out k hk).2 hE.size⟩)
              have HLE := hid (show (cs.map (crashC (Int.toNat 0))).length = cs.length from List.length_map _)
              have HOK := hid HD2.out.1
              clear hv hE
              by_cases h64 : 64 ≤ cs.length
              · have h64X : decide ((64 : Int) ≤ (cs.length : Int)) = true := by simp; omega
                have h64Y : (64 : Int) ≤ (cs.length : Int) := by omega
                have HF := hid (HEW.out.trans HK2.out fun k hk hb => HLO.out k hk hb)
                go_wp2
                go_ret
                exact ⟨rfl, HF.out⟩
              · have h64X : decide ((64 : Int) ≤ (cs.length : Int)) = false := by simp; omega
                have h64Y : ¬ (64 : Int) ≤ (cs.length : Int) := by omega
                go_wp2_with fail
                refine (disk_append _ C d _ _ ⟨#[126]⟩ (.slice none 0 0) [] (fun _ => False) HD2.out (Sl.nil _ _) (by decide)).mono ?_
                rintro e w14 ⟨rfl, hd, hk⟩
                have HF := hid (HEW.out.trans (HK2.out.trans hk fun k hk hf => (HCB.out k hf).1.elim id fun h => by omega) fun k hk hb => HLO.out k hk hb)
                rw [app_tilde HOK.out (by rw [HLE.out]; omega)]
                clear hd hk
                go_wp2
                go_ret
                exact ⟨rfl, HF.out⟩
theorem halts13_lift {Q0 Q1 : Prop} (lv : Value) (l : List DOp) (l2v : Value) (l2 : List DOp) (w : World) (h1 : Sl EDOp w (fun k => k < w.heap.size) lv l) (q1 : Q0 ∧ ∀ o ∈ l, (o.name.size ≤ reachBytes ∧ o.b.length ≤ reachBytes) ∧ (Lit.int .i64 o.n).wf = true) (h2 : Sl EDOp w (fun k => k < w.heap.size) l2v l2) (q2 : Q1 ∧ ∀ o ∈ l2, (o.name.size ≤ reachBytes ∧ o.b.length ≤ reachBytes) ∧ (Lit.int .i64 o.n).wf = true) :
    Calls Try.prog 8 #[lv, l2v] w fun e w' => e = .returned (.bool true) ∧ Below w.heap.size w w' :=
  (halts13_walk names_ok lv l l2v l2 w h1 (fun o ho => by have := (q1.2 o ho).1; unfold reachBytes at this; unfold maxLen; omega) (fun o ho => (q1.2 o ho).2) h2 (fun o ho => by have := (q2.2 o ho).1; unfold reachBytes at this; unfold maxLen; omega)).mono fun e w' h => ⟨h.1, h.2.toBelow⟩
end Go.Proofs.Ytikophoopapngaa
