/- The law NetKeeps: its walk. -/
import Derived.Test.YtjpbfdkpkeaofaaNetSent
namespace Go.Proofs.Ytjpbfdkpkeaofaa
open Go.RowKit
set_option linter.unusedVariables false

set_option maxHeartbeats 1600000 in
theorem keeps_walk (v : Value) (l : List LOp) (w : World) (hv : Sl EOp w (fun k => k < w.heap.size) v l) :
    Calls Try.prog 3 #[v] w fun e w' => e = .returned (.bool true) ∧ Below w.heap.size w w' := by
  obtain ⟨A, c, rfl, hlc, hcm⟩ := hv.shape
  unfold maxLen at hcm
  have HV := hid hv
  have HH := hid (heavy_ok _ _ _ _ hv)
  generalize hn : l.length = n at *
  have HN := hid hn
  clear hv hn
  go_enter Try.func3, Try.ntmps3
  go_wp2_with fail
  refine HH.out.mono ?_
  clear HH
  rintro e w' ⟨rfl | ⟨rfl, h100⟩, rfl⟩
  · go_wp2_with fail
    refine (known_any _).mono ?_
    rintro e w2 ⟨rfl, hE2⟩
    have H := hid hE2
    clear hE2
    go_wp2_with fail
    go_ret
    exact ⟨rfl, H.out.toBelow⟩
  · go_wp2_with fail
    refine (known_any _).mono ?_
    rintro e w2 ⟨rfl, hE2⟩
    have hz2 := hE2.size
    go_wp2_with fail
    refine (new_ok _).mono ?_
    rintro e w3 ⟨rfl, hn3, hE3⟩
    generalize w2.heap.size = bn at *
    have hS : SentS w w3 bn (fun _ => False) none (.slice none 0 0) [] [] := ⟨hn3, Own.nil _ _ _ _, fun k h => (by cases h), fun k h => (by cases h), fun k h => (by cases h), hz2, hE2.ext hE3⟩
    have HS := hid hS
    clear hS hn3 hE3 hE2
    go_wp2_with fail
    go_loopw [4, 5] (fun x y wr => ∃ (j : Nat) (S : BS) (g : Option Nat) (ms : List Mail), j ≤ n ∧ y = .int .i64 j ∧ SentS w wr bn S g x ms ms ∧ ms.length ≤ j ∧ (∀ m ∈ ms, m.b.length ≤ 60000)) (fun _ y _ => n - (intOf y).toNat)
    case atStart => exact ⟨0, _, _, [], by omega, rfl, HS.out, by simp, by simp⟩
    case round =>
      clear HS
      obtain ⟨j, S, g, ms, hj, rfl, hs, hmj, hm6⟩ := hrel
      have HM6 := hid hm6
      clear hm6
      obtain ⟨Aa, ca, rfl, hla, hca⟩ := hs.own.shape
      unfold maxLen at hca
      by_cases hlt : j < n
      · have hjm : j < l.length := by rw [HN.out]; exact hlt
        obtain ⟨b1, o1, c1, rfl, hb1, hl1, hr1, hc1⟩ := (HV.out.ext EOp.ok hs.ext).at_ EOp.ok hjm
        generalize hm : l[j]'hjm = o at *
        obtain ⟨bv1, rfl, hv1⟩ := hr1
        have e1 := hc1 1 _ rfl
        have e2 := hc1 2 _ rfl
        have e3 := hc1 3 _ rfl
        have hz3 : EOp.size = 5 := rfl
        simp only [hz3] at e1 e2 e3
        obtain ⟨A1, d1, rfl, _⟩ := hv1.shape
        have HSS := hid hs
        clear hz3 hc1 hm hs
        go_wp2_with fail
        refine wp_region_parts [] [0, 1, 2, 3, 4, 5, 6, 7, 8, 9, 10, 11, 12, 13, 14, 15, 16] [17] (specOf [(16, fun v w' => ∃ b, v = .pointer (some ⟨b, 0, none⟩) ∧ wr.heap.size ≤ b ∧ Blk w' b TMAIL #[.int .i64 0, .bool false, .slice none 0 0])])
          (fun w' => Ext wr w') ?_ (stableC_ext _) (by kernel_rfl) (by kernel_rfl) (Keep.drew (Keep.refl _ _)) ?_
        · exact stable_cons (fun v w w' ⟨b, h1, h2, h3⟩ he => ⟨b, h1, h2, h3.keep he id⟩) stable_nil
        refine pure_nil ?_
        iterate 16
          (try simp only [Act.put, List.setIfInBounds_toArray, List.set_cons_zero, List.set_cons_succ])
          refine growP_run rfl rfl rfl ?_
          apply Exists.intro
          refine ⟨fun w' hC hK => ?_, ?_⟩
          · have e1 := (hC.cell (lt_of_cell e1) id).trans e1
            have e2 := (hC.cell (lt_of_cell e2) id).trans e2
            have e3 := (hC.cell (lt_of_cell e3) id).trans e3
            go_simp
            rfl
        simp only [Act.put, List.setIfInBounds_toArray, List.set_cons_zero, List.set_cons_succ]
        refine growP_eff rfl rfl rfl (fun w' hC hK => ?_) (fun v6 hv6 => ?_)
        · unfold growAt
          go_simp
          exact ⟨(Keep.refl _ _).alloc _, _, rfl, hC.size, Blk.new _ _ _⟩
        obtain ⟨_, _, b6, rfl, hb6, _⟩ := hv6.head
        refine growP_nil fun w4 hC hK => ?_
        obtain ⟨b6', e6, _, hbk⟩ := hK (16, _) List.mem_cons_self
        obtain rfl : b6 = b6' := by injection e6 with e6; injection e6 with e6; injection e6
        clear hK e6 hv6
        change wpList _ _ _ (_ :: []) _ _
        have q0 := hbk.cell 0
        have q1 := hbk.cell 1
        have q2 := hbk.cell 2
        simp at q0 q1 q2
        have s0 := hbk.frozen 0
        have s1 := hbk.frozen 1
        have s2 := hbk.frozen 2
        have hbx := ((hbk.set_ 0 (.int .i64 o.sess)).set_ 1 (.bool o.up)).set_ 2 (.slice A1 o.b.length d1)
        have hE5 : Ext wr (((w4.setCell ⟨b6, 0, none⟩ (.int .i64 o.sess)).setCell ⟨b6, 1, none⟩ (.bool o.up)).setCell ⟨b6, 2, none⟩ (.slice A1 o.b.length d1)) :=
          hC.trans ((((Keep.refl (fun k => k = b6) w4).set1 0 _).set1 1 _).set1 2 _) (fun k hk e => by omega)
        clear hbk
        (try simp only [Act.put, List.setIfInBounds_toArray, List.set_cons_zero, List.set_cons_succ])
        go_wp2_with fail
        refine NoPanic.normal ?_
        have hbx : Blk (((w4.setCell ⟨b6, 0, none⟩ (.int .i64 o.sess)).setCell ⟨b6, 1, none⟩ (.bool o.up)).setCell ⟨b6, 2, none⟩ (.slice A1 o.b.length d1)) b6 TMAIL #[.int .i64 o.sess, .bool o.up, .slice A1 o.b.length d1] := by simpa using hbx
        have HV1 := hid (hv1.ext EU8.ok hE5)
        clear hv1 hC q0 q1 q2 s0 s1 s2 e1 e2 e3
        generalize ((w4.setCell ⟨b6, 0, none⟩ (.int .i64 o.sess)).setCell ⟨b6, 1, none⟩ (.bool o.up)).setCell ⟨b6, 2, none⟩ (.slice A1 o.b.length d1) = w5 at *
        have q0 := hbx.cell 0
        have q1 := hbx.cell 1
        have q2 := hbx.cell 2
        simp at q0 q1 q2
        have hb6f : ¬ NF bn g b6 := by
          have hlt := HSS.out.net.lt
          rintro (rfl | e)
          · omega
          · have := hlt.2 _ e; omega
        have HB6 := hid hb6f
        clear hb6f
        have HSS5 := hid (HSS.out.step_ext hE5)
        have HBX := hid hbx
        clear HSS hE5 hbx hl1
        obtain ⟨m, hmm⟩ : ∃ m : Mail, m = ⟨o.sess, o.up, o.b⟩ := ⟨_, rfl⟩
        have hm1 : o.sess = m.sess := by rw [hmm]
        have hm2 : o.up = m.up := by rw [hmm]
        have hm3 : o.b = m.b := by rw [hmm]
        rw [hm1] at HBX q0
        rw [hm2] at HBX q1
        rw [hm3] at HBX HV1 q2
        clear hmm hm1 hm2 hm3
        go_wp2_with fail
        by_cases hlong : 60000 < m.b.length
        · refine (send_long _ _ _ _ _ _ m _ HSS5.out.net HV1.out (by omega) hlong).mono ?_
          rintro e w6 ⟨rfl, hE6⟩
          have HS6 := hid (HSS5.out.step_ext hE6)
          clear hE6 q0 q1 q2
          go_wp2
          exact ⟨⟨j + 1, S, g, ms, by omega, by go_num, HS6.out, by omega, HM6.out⟩, by simp [intOf]; omega⟩
        · refine (send_yes _ _ _ _ _ _ m _ HSS5.out.net HV1.out (by omega) (by omega)).mono ?_
          rintro e w6 ⟨rfl, g6, hn6, hg6, hK6⟩
          have h6 := (HSS5.out.step_net hn6 hg6 (fun k h => h.elim (fun h => .inl h.1) (fun h => .inr h.1)) hK6).cutS
          have hbx6 := HBX.out.keep hK6 HB6.out
          have hbf := HSS5.out.bfar
          have hv6 := HV1.out.keep EU8.ok hK6 (fun k hk e => by
            rcases e with rfl | e
            · omega
            · have := HSS5.out.gfar k e; omega)
          have q0 := hbx6.cell 0
          have q1 := hbx6.cell 1
          have q2 := hbx6.cell 2
          simp at q0 q1 q2
          clear hn6 hg6 hK6 hbx6 HBX HSS5 HV1
          have hE7 : Ext w6 (w6.alloc (.cells #[.int .i64 m.sess, .bool m.up, .slice A1 m.b.length d1] TMAIL)) := (Keep.refl _ _).alloc _
          have h7 := h6.step_ext hE7
          have hv7 := hv6.ext EU8.ok hE7
          have hrow : RowS (w6.alloc (.cells #[.int .i64 m.sess, .bool m.up, .slice A1 m.b.length d1] TMAIL)) (fun k => k = w6.heap.size) 3 (.slice (some ⟨w6.heap.size, 0, none⟩) 1 1) 1 [.int .i64 m.sess, .bool m.up, .slice A1 m.b.length d1] :=
            RowS.new (w := w6) (sz := 3) (cs := [_, _, _]) (n := 1) rfl (by simp [maxLen])
          have hz7 : (w6.alloc (.cells #[.int .i64 m.sess, .bool m.up, .slice A1 m.b.length d1] TMAIL)).heap.size = w6.heap.size + 1 := by simp
          have HZ7 := hid hz7
          have H7 := hid h7
          have HR := hid hrow
          have HV7 := hid hv7
          clear hz7 h7 hrow hv7 hE7 h6 hv6
          go_wp2_with (at_builtin; refine wpList_own_append2 (P := Try.prog) (E := EMail) (v := .slice Aa ms.length ca) (ys := [m]) _ rfl (.tmp 47) (.tmp 49) EMail.ok ty_mail rfl rfl rfl H7.out.own HR.out (Cells.single ⟨_, rfl, HV7.out⟩) ?c1 ?c2 ?c3 ?c4 ?_)
          case c1 => intro k e; have := (H7.out.own.lt e).1; exact ⟨by omega, by omega⟩
          case c2 => have : ([m] : List Mail).length = 1 := rfl
                     rw [this]; omega
          case c3 => have : ([m] : List Mail).length = 1 := rfl
                     rw [this]; simp only [maxLen]; omega
          case c4 => exact H7.out.net.lt.1
          intro v8 w8 hown8 hk8 hb8
          obtain ⟨A8, c8, e8, h8⟩ := hown8.shape
          have h9 := H7.out.step_own (fun k h => by have := HZ7.out; have := h.2; omega) (hown8.more EMail.ok fun k _ h => by first | exact h | exact Or.elim h id id) hk8 (by rw [HZ7.out]; exact hb8)
          have HM9 : ∀ x ∈ ms ++ [m], x.b.length ≤ 60000 := fun x hx => by
            rcases List.mem_append.1 hx with hx | hx
            · exact HM6.out x hx
            · simp at hx; subst hx; omega
          have hl9 : (ms ++ [m]).length ≤ j + 1 := by simp; omega
          subst e8
          have H9 := hid h9
          have HM := hid HM9
          have HL := hid hl9
          clear h9 HM9 hl9 hown8 hk8 hb8 H7 HR HV7 HZ7
          go_wp2
          exact ⟨⟨j + 1, _, _, ms ++ [m], by omega, by go_num, H9.out, HL.out, HM.out⟩, by simp [intOf]; omega⟩
      · obtain rfl : j = n := by omega
        have HS1 := hid hs
        have hmj' : ms.length ≤ 100 := by omega
        clear hs
        go_wp2_with fail
        generalize hk : ms.length = k at *
        have HK := hid hk
        clear hk
        have hwr := HS1.out.ext.size
        go_loopw [7] (fun x wq => ∃ (i : Nat), i ≤ k ∧ x = .int .i64 i ∧ SentS w wq bn S g (.slice Aa k ca) ms (ms.drop i) ∧ True) (fun x _ => k - (intOf x).toNat)
        case atStart => exact ⟨0, by omega, rfl, by simpa using HS1.out, trivial⟩
        case round =>
          obtain ⟨i, hi, rfl, hq, _⟩ := hrel
          by_cases hlt2 : i < k
          · have him : i < ms.length := by rw [HK.out]; exact hlt2
            rw [List.drop_eq_getElem_cons him] at hq
            have htk := take_succ_get ms i him
            have hm6 := HM6.out ms[i] (List.getElem_mem _)
            generalize hm : ms[i]'him = m at *
            have HQ := hid hq
            have HTK := hid htk
            clear hq hm htk
            go_wp2_with fail
            refine (take_yes _ _ _ _ _ 0 HQ.out.net (by simp)).mono ?_
            rintro e w4 ⟨bv, rfl, hbv, hn4, hK4⟩
            simp only [List.getElem_cons_zero, List.eraseIdx_cons_zero] at hbv hn4 ⊢
            have h4 := HQ.out.step_net hn4 (.inl rfl) (fun k h => .inl h) hK4
            obtain ⟨A4, c4, rfl, _⟩ := hbv.shape
            have hE5 : Ext w4 (w4.alloc (.cells #[.int .i64 m.sess, .bool m.up, .slice A4 m.b.length c4] TMAIL)) := (Keep.refl _ _).alloc _
            have hbox : Blk (w4.alloc (.cells #[.int .i64 m.sess, .bool m.up, .slice A4 m.b.length c4] TMAIL)) w4.heap.size TMAIL #[.int .i64 m.sess, .bool m.up, .slice A4 m.b.length c4] := Blk.new _ _ _
            have H5 := hid (h4.step_ext hE5)
            have HB5 := hid (hbv.ext EU8.ok hE5)
            have HX := hid hbox
            clear h4 hn4 hK4 hbv hE5 hbox HQ
            go_wp2_with fail
            generalize w4.alloc (.cells #[.int .i64 m.sess, .bool m.up, .slice A4 m.b.length c4] TMAIL) = w5 at *
            generalize w4.heap.size = bx at *
            have q0 := HX.out.cell 0
            have q1 := HX.out.cell 1
            have q2 := HX.out.cell 2
            simp at q0 q1 q2
            obtain ⟨i1, hi1⟩ : ∃ i1 : Nat, i1 = i + 1 := ⟨_, rfl⟩
            have hwp : IntKind.i64.wrap ((i : Int) + 1) = (i1 : Int) := by rw [IntWalk.i64_in _ ⟨by omega, by omega⟩]; omega
            have hii : i ≤ i1 := by omega
            have hic : i1 ≤ ca := by omega
            have HI1 := hid hi1
            clear hi1
            refine wp_region_grow (specOf [(4, fun v w' => SlShape EMail w' (fun _ => True) v 1 [m]), (10, fun v w' => v = .bool true)])
              (fun w' => Ext w5 w') ?_ (stableC_ext _) (by kernel_rfl) (by kernel_rfl) (Keep.drew (Keep.refl _ _)) ?_
            · exact stable_cons (fun v w w' h he => h.ext EMail.ok he) (stable_cons (fun v w w' h he => h) stable_nil)
            iterate 4
              (try simp only [Act.put, List.setIfInBounds_toArray, List.set_cons_zero, List.set_cons_succ])
              refine grow_run rfl rfl rfl ?_
              apply Exists.intro
              refine ⟨fun w' hC hK => ?_, ?_⟩
              · have e1 := (hC.cell (lt_of_cell q0) id).trans q0
                have e2 := (hC.cell (lt_of_cell q1) id).trans q1
                have e3 := (hC.cell (lt_of_cell q2) id).trans q2
                go_simp
                rfl
            simp only [Act.put, List.setIfInBounds_toArray, List.set_cons_zero, List.set_cons_succ]
            refine grow_eff rfl rfl rfl (fun w' hC hK => ?_) (fun v4 hv4 => ?_)
            · unfold growAt
              go_simp
              refine ⟨(Keep.refl _ _).alloc _, _, _, rfl, [_, _, _], ?_, Cells.single ⟨.slice A4 m.b.length c4, rfl, ?_⟩⟩
              · exact (RowS.new (sz := 3) (cs := [_, _, _]) (n := 1) rfl (by simp [maxLen])).more fun k _ e => trivial
              · exact ((HB5.out.ext EU8.ok hC).ext EU8.ok ((Keep.refl _ _).alloc (.cells #[.int .i64 m.sess, .bool m.up, .slice A4 m.b.length c4] TMAIL))).more EU8.ok fun k _ h => trivial
            obtain ⟨_, _, A7, c7, rfl, _⟩ := hv4.head
            iterate 4
              (try simp only [Act.put, List.setIfInBounds_toArray, List.set_cons_zero, List.set_cons_succ])
              refine grow_run rfl rfl rfl ?_
              apply Exists.intro
              refine ⟨fun w' hC hK => ?_, ?_⟩
              · go_simp
                rfl
            (try simp only [Act.put, List.setIfInBounds_toArray, List.set_cons_zero, List.set_cons_succ])
            refine grow_run rfl rfl rfl ?_
            apply Exists.intro
            refine ⟨fun w' hC hK => ?_, ?_⟩
            · go_simp
              rfl
            (try simp only [Act.put, List.setIfInBounds_toArray, List.set_cons_zero, List.set_cons_succ])
            refine grow_eff rfl rfl rfl (fun w' hC hK => ?_) (fun v10 hv10 => ?_)
            · obtain ⟨_, _, e7, f7⟩ : SlShape EMail w' (fun _ => True) (.slice A7 1 c7) 1 [m] := hK.get (i := 4) (List.mem_cons_self) (by kernel_rfl)
              clear e7
              have hsl := (((H5.out.step_ext hC).own.sl EMail.ok).cut EMail.ok (lo := i) (hi := i1) hii (by have := HI1.out; have := HK.out; omega))
              have hone : (ms.take i1).drop i = [m] := by
                rw [HI1.out, HTK.out, List.drop_append_of_le_length (by simp; omega), List.drop_of_length_le (by simp; omega)]; rfl
              rw [hone] at hsl
              unfold growAt
              go_simp
              have hsl2 : Sl EMail w' (fun k_1 => k_1 < w.heap.size ∨ (Value.slice Aa k ca).ownBlock = some k_1) (.slice (if ca = i then Aa else Option.map (fun x => x.add (i * 3)) Aa) (i1 - i) (ca - i)) [m] := hsl
              have hcall := same_yes w' _ _ _ _ [m] f7 hsl2
              refine grow_call ?_
              refine hcall.mono ?_
              rintro e w9 ⟨rfl, h2⟩
              exact ⟨_, rfl, h2, rfl⟩
            have e10 : v10 = .bool true := hv10.head.elim fun _ h => h.2
            subst e10
            clear hv10
            iterate 2
              (try simp only [Act.put, List.setIfInBounds_toArray, List.set_cons_zero, List.set_cons_succ])
              refine grow_run rfl rfl rfl ?_
              apply Exists.intro
              refine ⟨fun w' hC hK => ?_, ?_⟩
              · go_simp
                rfl
            refine grow_nil fun w6 hC _ => ?_
            have H6 := hid (H5.out.step_ext hC)
            clear hC hv4 q0 q1 q2 HB5 HX H5
            go_wp2
            have hi1 := HI1.out
            exact ⟨⟨i1, by omega, by first | rfl | (rw [hi1]; go_num), by rw [hi1]; exact H6.out, trivial⟩, by simp [intOf]; omega⟩
          · obtain rfl : i = k := by omega
            rw [List.drop_of_length_le (by have := HK.out; omega)] at hq
            have HQ := hid hq
            clear hq
            go_wp2_with fail
            refine (take_no _ _ _ _ _ 0 HQ.out.net (by simp)).mono ?_
            rintro e w4 ⟨rfl, hE4⟩
            have H4 := hid (HQ.out.step_ext hE4 |>.step_ext ((Keep.refl _ _).alloc (.cells #[.int .i64 0, .bool false, .slice none 0 0] TMAIL)))
            clear hE4 HQ
            go_wp2_with fail
            refine (all_ok _ _ _ _ _ H4.out.net (by simp) (by simp)).mono ?_
            rintro e w5 ⟨v5, rfl, hv5, hE5⟩
            obtain ⟨A5, c5, rfl, _⟩ := hv5.shape
            have H5 := hid (H4.out.step_ext hE5).ext.toBelow
            clear hv5 hE5 H4
            go_wp2_with fail
            go_ret
            exact ⟨rfl, H5.out⟩
end Go.Proofs.Ytjpbfdkpkeaofaa
