/- There are never more bytes than there is room: the walk. -/
import Derived.Test.YtikophoopapngaaDiskQ
import Derived.SizedLaws
set_option linter.unusedSimpArgs false
set_option linter.unusedVariables false
namespace Go.Proofs.Ytikophoopapngaa
open Go.RowKit Go.Maps
set_option linter.unusedVariables false

theorem app_code (cs : List DC) (s : DSt) (nm b : List UInt8) : (appR cs s nm b).1 = 0 ∨ ((appR cs s nm b).1 = 130 ∧ (appR cs s nm b).2 = cs) := by
  unfold appR
  split
  · exact .inr ⟨rfl, rfl⟩
  · split
    · exact .inl rfl
    · split
      · exact .inl rfl
      · exact .inr ⟨rfl, rfl⟩
theorem find_upd {g : DC → DC} (hg : ∀ c, (g c).name = c.name) (nm : List UInt8) : ∀ cs : List DC, findC (updC g cs nm) nm = (findC cs nm).map g
  | [] => rfl
  | c :: r => by
    have ih := find_upd hg nm r
    unfold findC updC at ih ⊢
    rw [List.map_cons, List.find?_cons, List.find?_cons]
    by_cases e : c.name = nm
    · rw [if_pos e, hg]
      simp [e]
    · have : (c.name == nm) = false := by simpa using e
      rw [if_neg e, this]
      exact ih
theorem find_ins {x : DC} : ∀ {cs : List DC}, (∀ c ∈ cs, c.name ≠ x.name) → findC (insC x cs) x.name = some x
  | [], _ => by simp [insC, findC]
  | c :: r, h => by
    rw [insC]
    split
    · simp [findC]
    · have hc : (c.name == x.name) = false := by simpa using h c (by simp)
      have ih := find_ins (x := x) (cs := r) fun y hy => h y (by simp [hy])
      unfold findC at ih ⊢
      rw [List.find?_cons, hc]
      exact ih
theorem app_read {cs : List DC} {s : DSt} {nm b : List UInt8} (h : (appR cs s nm b).1 = 0) : (readR (appR cs s nm b).2 nm).2 = (readR cs nm).2 ++ b := by
  by_cases h1 : fullC cs s b.length = true
  · rw [appR_full h1] at h; cases h
  · have h1 : fullC cs s b.length = false := by simpa using h1
    by_cases h2 : hasC cs nm = true
    · rw [appR_has h1 h2]
      show (readR (updC (moreC b) cs nm) nm).2 = _
      unfold readR
      rw [find_upd (g := moreC b) (fun _ => rfl)]
      have h3 : (findC cs nm).isSome = true := by
        unfold findC hasC at *
        rw [List.isSome_find?]; exact h2
      obtain ⟨c, hc⟩ := Option.isSome_iff_exists.1 h3
      rw [hc]
      rfl
    · have h2 : hasC cs nm = false := by simpa using h2
      by_cases h3 : mayC cs.length nm = true
      · rw [appR_new h1 h2 h3]
        have hno : ∀ c ∈ cs, c.name ≠ nm := fun c hc e => by
          have : hasC cs nm = true := List.any_eq_true.2 ⟨c, hc, by simp [e]⟩
          rw [h2] at this; cases this
        have h4 : findC cs nm = none := List.find?_eq_none.2 fun c hc => by simpa using hno c hc
        unfold readR
        rw [find_ins (x := ⟨nm, b, 0⟩) hno, h4]
        rfl
      · rw [appR_no h1 h2 (by simpa using h3)] at h; cases h

theorem read_le (cs : List DC) (nm : List UInt8) : (readR cs nm).2.length ≤ usedC cs := by
  unfold readR
  cases h : findC cs nm with
  | none => exact Nat.zero_le _
  | some c => exact mem_usedC (List.mem_of_find?_eq_some h)
set_option maxRecDepth 20000 in
set_option maxHeartbeats 12800000 in
theorem room_walk (hN : NamesAll) (r : Int) (hr : (Lit.int .u16 r).wf = true) (lv : Value) (l : List DOp) (w : World) (hl : Sl EDOp w (fun k => k < w.heap.size) lv l) (hq : ∀ o ∈ l, o.name.size ≤ maxLen ∧ o.b.length ≤ 140737488355328) :
    Calls Try.prog 6 #[.int .u16 r, lv] w fun e w' => e = .returned (.bool true) ∧ Ext w w' := by
  obtain ⟨A1, c1, rfl, hc1, hm1⟩ := hl.shape
  unfold maxLen at hm1
  have HL := hid hl
  have HQ := hid hq
  have HNA := hid hN
  clear hN
  have HEND := hid (show ∀ wx, Ext w wx → Calls Try.prog 9 #[] wx fun e w' => e = .returned (.bool true) ∧ Ext w w' from fun wx h => (known13_ok wx).mono fun e w' h2 => ⟨h2.1, h.ext h2.2⟩)
  have HEW := hid (Keep.refl (fun _ => False) w)
  obtain ⟨zz, hzz⟩ : ∃ zz : Nat, r = zz := by
    simp [Lit.wf, IntKind.min, IntKind.max, IntKind.signed, IntKind.bits] at hr
    exact ⟨r.toNat, by omega⟩
  subst hzz
  obtain ⟨R, hR⟩ : ∃ R, zz % 3000 = R := ⟨_, rfl⟩
  have hR3 : R < 3000 := by omega
  have hmod : (zz : Int) % 3000 = (R : Int) := by omega
  have hmod2 : (zz : Int).tmod 3000 = (R : Int) := by rw [← hR]; exact (Int.ofNat_tmod zz 3000).symm
  have HR3 := hid hR3
  clear hl hq hr hR
  have hpe := eql_pdsk
  obtain ⟨m, hm⟩ : ∃ m, l.length = m := ⟨_, rfl⟩
  rw [hm] at hc1 ⊢
  have HM := hid hm
  have HLM := hid (show Sl EDOp w (fun k => k < w.heap.size) (.slice A1 m c1) l from by rw [← hm]; exact HL.out)
  clear hm HL
  go_enter Try.func6, Try.ntmps6
  go_wp2_with fail
  refine (heavy13_ok _ _ _ _ HLM.out).mono ?_
  rintro e w1 ⟨b1, rfl, hb, hE⟩
  clear hb
  replace HEW := hid (HEW.out.ext hE)
  clear hE
  cases b1 with
  | true =>
    go_wp2_with fail
    refine (HEND.out _ HEW.out).mono ?_
    rintro e w2 ⟨rfl, hz⟩
    have HZ := hid hz
    clear hz
    go_wp2
    go_ret
    exact ⟨rfl, HZ.out⟩
  | false =>
    go_wp2_with fail
    refine (known13_ok _).mono ?_
    rintro e w2 ⟨rfl, hE⟩
    replace HEW := hid (HEW.out.ext hE)
    clear hE HEND
    go_wp2_with fail
    refine (disk_new_w w w2 R (by omega) HEW.out).mono ?_
    rintro e w3 ⟨d, B, rfl, hD, _, _⟩
    have HD := hid hD
    clear hD HEW
    go_wp2_with fail
    go_loopw [6] (fun y wr => ∃ (i : Nat) (B : BS) (cs : List DC), i ≤ m ∧ y = .int .i64 i ∧ DskW w wr B d cs ⟨R, false, -1⟩) (fun y _ => m - (intOf y).toNat)
    case atStart => exact ⟨0, B, [], by omega, rfl, HD.out⟩
    case round =>
      obtain ⟨i, B, cs, hi, rfl, hD⟩ := hrel
      have HD := hid hD
      clear hD
      by_cases hlt : i < m
      · have hil : i < l.length := by rw [HM.out]; exact hlt
        obtain ⟨b, off, c0, rfl, hbw, _, ⟨bv, rfl, hu⟩, hc⟩ := (HLM.out.ext EDOp.ok HD.out.ext).at_ EDOp.ok hil
        obtain ⟨A2, c2, rfl, hc2, _⟩ := hu.shape
        have g1 := hc 1 _ rfl
        have g2 := hc 2 _ rfl
        have e4 : EDOp.size = 4 := rfl
        simp only [e4] at g1 g2
        have HQO := hid (HQ.out _ (List.getElem_mem hil))
        generalize l[i]'hil = o at *
        have HU := hid hu
        have hX : (i : Int) < m := by omega
        clear hc hu e4 hil
        go_wp2_with fail
        refine (disk_used' _ _ _ _ _ HD.out.is).mono ?_
        rintro e w4 ⟨rfl, hE⟩
        replace g1 := (hE.cell (lt_of_cell g1) id).trans g1
        replace g2 := (hE.cell (lt_of_cell g2) id).trans g2
        replace HD := hid (HD.out.more hE)
        replace HU := hid (HU.out.ext EU8.ok hE)
        clear hE
        go_wp2_with fail
        refine (disk_read _ _ _ _ _ o.name HD.out.is HQO.out.1).mono ?_
        rintro e w5 ⟨A5, k5, rfl, hx, hE⟩
        replace g1 := (hE.cell (lt_of_cell g1) id).trans g1
        replace g2 := (hE.cell (lt_of_cell g2) id).trans g2
        have HX := hid (hx.more (S' := fun q => ¬ B q) EU8.ok fun q _ h hb => by have := (HD.out.low q hb).2; omega)
        replace HD := hid (HD.out.more hE)
        replace HU := hid (HU.out.ext EU8.ok hE)
        clear hx hE
        generalize hwas : (readR cs o.name.data.toList).2 = was at *
        have HWAS := hid hwas
        clear hwas
        go_wp2_with fail
        refine wp_region_parts [] [0, 1, 2, 3, 4, 5, 6, 7, 8, 9, 10] [11, 12] (specOf []) (fun w' => Ext w5 w') stable_nil (stableC_ext _) (by kernel_rfl) (by kernel_rfl) (Keep.drew (Keep.refl _ _)) ?_
        refine pure_nil ?_
        iterate 11
          (try simp only [Act.put, List.setIfInBounds_toArray, List.set_cons_zero, List.set_cons_succ])
          refine growP_run rfl rfl rfl ?_
          apply Exists.intro
          refine ⟨fun w' hC hK => ?_, ?_⟩
          · have g1 := (hC.cell (lt_of_cell g1) id).trans g1
            have g2 := (hC.cell (lt_of_cell g2) id).trans g2
            go_simp
            rfl
        refine growP_nil fun w6 hC hK => ?_
        have hE : Ext w5 w6 := hC
        replace g1 := (hE.cell (lt_of_cell g1) id).trans g1
        replace g2 := (hE.cell (lt_of_cell g2) id).trans g2
        replace HD := hid (HD.out.more hE)
        replace HU := hid (HU.out.ext EU8.ok hE)
        replace HX := hid (HX.out.ext EU8.ok hE)
        clear hC hK hE
        change wpList _ _ _ (_ :: _ :: []) _ _
        (try simp only [Act.put, List.setIfInBounds_toArray, List.set_cons_zero, List.set_cons_succ])
        go_wp2_with fail
        refine (disk_append _ _ _ _ _ o.name _ o.b _ HD.out.is HU.out HQO.out.1).mono ?_
        rintro e w7 ⟨he, hd, hk⟩
        have hcode := app_code cs ⟨R, false, -1⟩ o.name.data.toList o.b
        have hrd := app_read (cs := cs) (s := ⟨R, false, -1⟩) (nm := o.name.data.toList) (b := o.b)
        obtain ⟨rc, hrc⟩ : ∃ rc, (appR cs ⟨R, false, -1⟩ o.name.data.toList o.b).1 = rc := ⟨_, rfl⟩
        obtain ⟨cs', hcs⟩ : ∃ cs', (appR cs ⟨R, false, -1⟩ o.name.data.toList o.b).2 = cs' := ⟨_, rfl⟩
        rw [hrc] at he hcode hrd
        rw [hcs] at hd hcode hrd
        rw [HWAS.out] at hrd
        subst he
        have hD : DskW w w7 _ d cs' ⟨R, false, -1⟩ := HD.out.grow hk hd
        have hx6 := HX.out.more (S' := fun q => ¬ moreB B w6 w7 q) EU8.ok fun q hq h hb => by
          rcases hb with hb | hb
          · exact h hb
          · omega
        have hnb : ∀ k, k < w.heap.size → ¬ B k := fun k h hb => by have := (HD.out.low k hb).1; omega
        replace g1 := (hk.cell (lt_of_cell g1) (hnb _ hbw)).trans g1
        replace g2 := (hk.cell (lt_of_cell g2) (hnb _ hbw)).trans g2
        replace HU := hid (HU.out.keep EU8.ok hk hnb)
        replace HX := hid (hx6.keep EU8.ok hk fun q h hb => h (.inl hb))
        generalize moreB B w6 w7 = B7 at *
        replace HD := hid hD
        have HCS := hid hcs
        clear hd hk hD hx6 hnb hrc hcs
        rcases hcode with rfl | ⟨rfl, rfl⟩
        · have HRD := hid (hrd rfl)
          clear hrd
          go_wp2_with fail
          refine NoPanic.normal ?_
          go_wp2_with fail
          refine (disk_read _ _ _ _ _ o.name HD.out.is HQO.out.1).mono ?_
          rintro e w8 ⟨A8, k8, rfl, hx, hE⟩
          have hle := read_le cs' o.name.data.toList
          rw [HRD.out] at hx hle ⊢
          have HLE := hid hle
          clear hle
          replace g1 := (hE.cell (lt_of_cell g1) id).trans g1
          replace g2 := (hE.cell (lt_of_cell g2) id).trans g2
          have HY := hid hx
          replace HD := hid (HD.out.more hE)
          replace HU := hid (HU.out.ext EU8.ok hE)
          replace HX := hid (HX.out.ext EU8.ok hE)
          clear hx hE
          obtain ⟨n8, hn8⟩ : ∃ n8, (was ++ o.b).length = n8 := ⟨_, rfl⟩
          rw [hn8] at HY ⊢
          try rw [hn8] at HX
          have HN8 := hid hn8
          clear hn8
          go_wp2_with fail
          refine (disk_used' _ _ _ _ _ HD.out.is).mono ?_
          rintro e w9 ⟨rfl, hE⟩
          have hus : usedC cs' ≤ R := HD.out.is.1.used
          have HUS := hid hus
          replace g1 := (hE.cell (lt_of_cell g1) id).trans g1
          replace g2 := (hE.cell (lt_of_cell g2) id).trans g2
          replace HD := hid (HD.out.more hE)
          replace HU := hid (HU.out.ext EU8.ok hE)
          replace HX := hid (HX.out.ext EU8.ok hE)
          replace HY := hid (HY.out.ext EU8.ok hE)
          clear hE
          have hus1 : decide ((R : Int) < (usedC cs' : Int)) = false := by simp; omega
          have hus2 : decide (R < usedC cs') = false := by simp; omega
          clear hus
          go_wp2_with fail
          refine (HNA.out _ _ _ _ _ HD.out.is).mono ?_
          rintro e w10 ⟨v10, rfl, hv, hE⟩
          obtain ⟨A10, k10, rfl, _⟩ := hv.shape
          rw [namesC_length]
          have hnm : cs'.length ≤ 64 := HD.out.is.1.many
          have hnm1 : decide ((64 : Int) < (cs'.length : Int)) = false := by simp; omega
          have hnm2 : decide (64 < cs'.length) = false := by simp; omega
          replace g1 := (hE.cell (lt_of_cell g1) id).trans g1
          replace g2 := (hE.cell (lt_of_cell g2) id).trans g2
          replace HD := hid (HD.out.more hE)
          replace HU := hid (HU.out.ext EU8.ok hE)
          replace HX := hid (HX.out.ext EU8.ok hE)
          replace HY := hid (HY.out.ext EU8.ok hE)
          clear hE hv hnm hus1 hus2
          have hadd : ∀ w' : World, (Op.stringOp .add (textOf was) (textOf o.b)).run Try.prog w' = .ok (.string (textOf (was ++ o.b))) w' := fun w' => run_add_text _ _ w' (by have := HUS.out; have := HLE.out; rw [List.length_append] at this; have := HR3.out; omega)
          go_wp2_with fail
          refine wp_region_grow (specOf []) (fun w' => Ext w10 w') stable_nil (stableC_ext _) (by kernel_rfl) (by kernel_rfl) (Keep.drew (Keep.refl _ _)) ?_
          iterate 16
            (try simp only [Act.put, List.setIfInBounds_toArray, List.set_cons_zero, List.set_cons_succ])
            refine grow_run rfl rfl rfl ?_
            apply Exists.intro
            refine ⟨fun w' hC hK => ?_, ?_⟩
            · have q2 := (hC.cell (lt_of_cell g2) id).trans g2
              have h1 := convert_bytesS (HY.out.ext EU8.ok hC)
              have h2 := convert_bytesS (HX.out.ext EU8.ok hC)
              have h3 := convert_bytesS (HU.out.ext EU8.ok hC)
              go_simp
              rfl
          refine grow_nil fun wz hC _ => ?_
          have HDZ := hid (HD.out.more (show Ext w10 wz from hC))
          clear hC g1 g2 hnm1 hnm2
          go_wp2
          exact ⟨⟨i + 1, B7, cs', by omega, by go_num, HDZ.out⟩, by simp [intOf]; omega⟩
        · have HRD := hid HWAS.out
          clear hrd HWAS
          go_wp2_with fail
          refine NoPanic.normal ?_
          go_wp2_with fail
          refine (disk_read _ _ _ _ _ o.name HD.out.is HQO.out.1).mono ?_
          rintro e w8 ⟨A8, k8, rfl, hx, hE⟩
          have hle := read_le cs' o.name.data.toList
          rw [HRD.out] at hx hle ⊢
          have HLE := hid hle
          clear hle
          replace g1 := (hE.cell (lt_of_cell g1) id).trans g1
          replace g2 := (hE.cell (lt_of_cell g2) id).trans g2
          have HY := hid hx
          replace HD := hid (HD.out.more hE)
          replace HU := hid (HU.out.ext EU8.ok hE)
          replace HX := hid (HX.out.ext EU8.ok hE)
          clear hx hE
          obtain ⟨n8, hn8⟩ : ∃ n8, (was).length = n8 := ⟨_, rfl⟩
          rw [hn8] at HY ⊢
          try rw [hn8] at HX
          have HN8 := hid hn8
          clear hn8
          go_wp2_with fail
          refine (disk_used' _ _ _ _ _ HD.out.is).mono ?_
          rintro e w9 ⟨rfl, hE⟩
          have hus : usedC cs' ≤ R := HD.out.is.1.used
          have HUS := hid hus
          replace g1 := (hE.cell (lt_of_cell g1) id).trans g1
          replace g2 := (hE.cell (lt_of_cell g2) id).trans g2
          replace HD := hid (HD.out.more hE)
          replace HU := hid (HU.out.ext EU8.ok hE)
          replace HX := hid (HX.out.ext EU8.ok hE)
          replace HY := hid (HY.out.ext EU8.ok hE)
          clear hE
          have hus1 : decide ((R : Int) < (usedC cs' : Int)) = false := by simp; omega
          have hus2 : decide (R < usedC cs') = false := by simp; omega
          clear hus
          go_wp2_with fail
          refine (HNA.out _ _ _ _ _ HD.out.is).mono ?_
          rintro e w10 ⟨v10, rfl, hv, hE⟩
          obtain ⟨A10, k10, rfl, _⟩ := hv.shape
          rw [namesC_length]
          have hnm : cs'.length ≤ 64 := HD.out.is.1.many
          have hnm1 : decide ((64 : Int) < (cs'.length : Int)) = false := by simp; omega
          have hnm2 : decide (64 < cs'.length) = false := by simp; omega
          replace g1 := (hE.cell (lt_of_cell g1) id).trans g1
          replace g2 := (hE.cell (lt_of_cell g2) id).trans g2
          replace HD := hid (HD.out.more hE)
          replace HU := hid (HU.out.ext EU8.ok hE)
          replace HX := hid (HX.out.ext EU8.ok hE)
          replace HY := hid (HY.out.ext EU8.ok hE)
          clear hE hv hnm hus1 hus2
          go_wp2_with fail
          refine (disk_used' _ _ _ _ _ HD.out.is).mono ?_
          rintro e w11 ⟨rfl, hE⟩
          have h1 := convert_bytesS (HY.out.ext EU8.ok hE)
          have h2 := convert_bytesS (HX.out.ext EU8.ok hE)
          replace HD := hid (HD.out.more hE)
          clear hE g1 g2 hnm1 hnm2
          have hun : ((usedC cs' : Int) != (usedC cs' : Int)) = false := by simp
          go_wp2_with fail
          refine wp_region_grow (specOf []) (fun w' => Ext w11 w') stable_nil (stableC_ext _) (by kernel_rfl) (by kernel_rfl) (Keep.drew (Keep.refl _ _)) ?_
          iterate 3
            (try simp only [Act.put, List.setIfInBounds_toArray, List.set_cons_zero, List.set_cons_succ])
            refine grow_run rfl rfl rfl ?_
            apply Exists.intro
            refine ⟨fun w' hC hK => ?_, ?_⟩
            · go_simp
              rfl
          iterate 12
            (try simp only [Act.put, List.setIfInBounds_toArray, List.set_cons_zero, List.set_cons_succ])
            with_reducible refine grow_skip ?_ ?_ ?_
            · rfl
            · rfl
          iterate 1
            (try simp only [Act.put, List.setIfInBounds_toArray, List.set_cons_zero, List.set_cons_succ])
            refine grow_run rfl rfl rfl ?_
            apply Exists.intro
            refine ⟨fun w' hC hK => ?_, ?_⟩
            · go_simp
              rfl
          refine grow_nil fun wz hC _ => ?_
          have HDZ := hid (HD.out.more (show Ext w11 wz from hC))
          clear hC h1 h2
          go_wp2
          exact ⟨⟨i + 1, B7, cs', by omega, by go_num, HDZ.out⟩, by simp [intOf]; omega⟩
      · obtain rfl : i = m := by omega
        have HEZ := hid HD.out.ext
        have hX : ¬ (i : Int) < i := by omega
        go_wp2
        go_ret
        exact ⟨rfl, HEZ.out⟩
theorem dop_op {H : Type} {enc : TypeId × Value → H} {W : World} {spare : Nat → Bool} {held : Bool} : Opens EDOp enc Try.prog W spare held 42 (fun o => o.name.size ≤ reachBytes ∧ o.b.length ≤ reachBytes) := by
  refine (opens_struct Try.underlying42 (by kernel_rfl) (fop_cons rfl (opens_u8 Try.underlying5 (by kernel_rfl)) (fop_cons rfl (opens_str Try.underlying9 (by kernel_rfl))
    (fop_cons rfl (opens_slice EU8.ok Try.underlying23 (by kernel_rfl) (opens_u8 Try.underlying5 (by kernel_rfl))) (fop_one rfl (opens_int Try.underlying3 (by kernel_rfl))))))).map rfl (fun x => ⟨x.1, x.2.1, x.2.2.1, x.2.2.2⟩) ?_ ?_
  · rintro w S cs x ⟨c1, _, rfl, h1, c2, _, rfl, h2, c4, c5, rfl, ⟨bv, h4, h4'⟩, h5⟩
    exact ⟨bv, by rw [show c1 = _ from h1, show c2 = _ from h2, h4, show c5 = _ from h5]; rfl, h4'⟩
  · rintro x ⟨_, hs, ⟨h, _⟩, _⟩
    have e : Try.prog.bytesOf 5 = 1 := by kernel_rfl
    rw [e, Nat.mul_one] at h
    exact ⟨hs, h⟩
theorem room_lift {Q0 : Prop} (r : Int) (lv : Value) (l : List DOp) (w : World) (hr : (Lit.int .u16 r).wf = true) (h1 : Sl EDOp w (fun k => k < w.heap.size) lv l) (q1 : Q0 ∧ ∀ o ∈ l, o.name.size ≤ reachBytes ∧ o.b.length ≤ reachBytes) :
    Calls Try.prog 6 #[.int .u16 r, lv] w fun e w' => e = .returned (.bool true) ∧ Below w.heap.size w w' :=
  (room_walk names_ok r hr lv l w h1 (fun o ho => by have := q1.2 o ho; unfold reachBytes at this; unfold maxLen; omega)).mono fun e w' h => ⟨h.1, h.2.toBelow⟩
end Go.Proofs.Ytikophoopapngaa
