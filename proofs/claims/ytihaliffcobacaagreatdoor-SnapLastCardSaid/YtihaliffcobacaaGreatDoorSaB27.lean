/- SnapG, SnapGL: laid together. -/
import Derived.Test.YtihaliffcobacaaGreatDoorSaB26
import Derived.Test.YtihaliffcobacaaGreatDoorSaB18
import Derived.Test.YtihaliffcobacaaGreatDoorSaB24
import Derived.Test.YtihaliffcobacaaGreatDoorSaB2
import Derived.Test.YtihaliffcobacaaGreatDoorSaB7
set_option linter.unusedSimpArgs false
set_option linter.unusedVariables false
set_option maxHeartbeats 25600000
set_option maxRecDepth 20000
namespace Go.Proofs.YtihaliffcobacaaGreatDoor
open Go.RowKit
def Good (s : Sh) : Prop := ShOk s ∧ Wide s.v ∧ (shB s).length ≤ 22500
def LastAt (w wr : World) (g d j : Nat) (ss : List Sh) : Prop :=
 ∃ (N B : BS) (lst : Sh) (A4 : Option Addr) (c4 : Nat) (A5 : Option Addr) (c5 : Nat), ss.length = j ∧ (∀ s ∈ ss, Good s) ∧ (j = 0 ∨ ∃ ss', ss = ss' ++ [lst]) ∧ Dk w N wr B d (oneF ⟨#[115]⟩ (ss.map shB)) ⟨1048576, false, -1⟩ ∧ N g ∧
  Blk wr g TSHOT #[.int .i64 lst.n, .bool lst.there, U8 lst.v.kind, .int .i64 lst.v.n, .string lst.v.s, .slice A4 lst.v.l.length c4, .slice A5 lst.v.o.length c5] ∧
  VAt wr (fun q => N q ∧ q ≠ g) (.agg #[U8 lst.v.kind, .int .i64 lst.v.n, .string lst.v.s, .slice A4 lst.v.l.length c4, .slice A5 lst.v.o.length c5]) lst.v
set_option maxRecDepth 100000 in
theorem last_walk (rs : List Rs) (A : Option Addr) (c : Nat) (keep : Int) (hkp : (Lit.int .i64 keep).wf = true) (hq : ∀ r ∈ rs, RsF r) (w : World) (hva : ValAny w) (h : Sl ERs w (fun k => k < w.heap.size) (.slice A rs.length c) rs) :
  Calls Tryz.prog 4 #[.slice A rs.length c, .int .i64 keep] w fun e w' => e = .returned (.bool true) ∧ Ext w w' := by
 have hpe := eql_pdsk
 have HVA := hid hva
 have HQ := hid hq
 have HV := hid h
 obtain ⟨n, hn⟩ : ∃ n, rs.length = n := ⟨_, rfl⟩
 obtain ⟨A', c', e, hlc, hcm⟩ := h.shape
 injection e with e1 _ e3
 subst e1 e3
 have HN := hid hn
 unfold maxLen at hcm
 rw [hn] at HV hlc ⊢
 clear hva hq h hn
 go_enter Tryz.func4, Tryz.ntmps4
 go_wp2_with fail
 have hhv := heavy15_len w _ A c rs (HN.out ▸ HV.out)
 rw [HN.out] at hhv
 refine hhv.mono ?_
 rintro e w1 ⟨⟨b, rfl, hb⟩, rfl⟩
 clear hhv
 cases b with
 | true =>
  clear hb
  go_wp2_with fail
  refine (known15_ok w1 HVA.out w1 (Keep.refl _ _)).mono ?_
  rintro e w2 ⟨rfl, hE⟩
  have HE2 := hid hE
  clear hE
  go_wp2
  go_ret
  exact ⟨rfl, HE2.out⟩
 | false =>
  have hn30 : n ≤ 30 := hb.resolve_left (by decide)
  clear hb
  by_cases hn0 : n = 0
  ·subst hn0
   go_wp2_with fail
   refine (known15_ok w1 HVA.out w1 (Keep.refl _ _)).mono ?_
   rintro e w2 ⟨rfl, hE⟩
   have HE2 := hid hE
   clear hE
   go_wp2
   go_ret
   exact ⟨rfl, HE2.out⟩
  ·have hn0X : ((n : Int) == 0) = false := by rw [beq_eq_false_iff_ne]; omega
   go_wp2_with fail
   refine (known15_ok w1 HVA.out w1 (Keep.refl _ _)).mono ?_
   rintro e w2 ⟨rfl, hE2⟩
   have HE2 := hid hE2
   clear hE2
   go_wp2_with fail
   refine (disk_new_w w1 w2 1048576 (by decide) HE2.out).mono ?_
   rintro e w3 ⟨d, B, rfl, hD, hlow, hE3⟩
   obtain ⟨W3, hW3⟩ : ∃ W3, w3.alloc (.cells #[.int .i64 0, .bool false, .int .u8 0, .int .i64 0, .string ⟨#[]⟩, .slice none 0 0, .slice none 0 0] TSHOT) = W3 := ⟨_, rfl⟩
   have hE4 : Ext w3 W3 := by rw [← hW3]; exact (Keep.refl _ _).alloc _
   have hb6 : Blk W3 w3.heap.size TSHOT #[.int .i64 0, .bool false, .int .u8 0, .int .i64 0, .string ⟨#[]⟩, .slice none 0 0, .slice none 0 0] := by rw [← hW3]; exact Blk.new _ _ _
   have hd0 := (Dk.new (N := fun _ => False) hD hlow hE3 (fun k hn => hn.elim)).more hE4
   have HL := hid (show LastAt w1 W3 w3.heap.size d 0 [] from ⟨_, B, ⟨0, false, zV⟩, none, 0, none, 0, rfl, fun s hs => absurd hs (by simp), .inl rfl, hd0, .inr ⟨Nat.le_refl _, hb6.lt⟩, hb6, ⟨_, _, rfl, Sl.nil _ _, Sl.nil _ _⟩⟩)
   have HW3 := hid hW3
   have HE3 := hid ((HE2.out.ext hE3).ext hE4)
   clear hD hlow hE3 hW3 hE4 hb6 hd0 HE2
   go_wp2_with fail
   change Code.wp _ _ _ _ (w3.alloc (.cells #[.int .i64 0, .bool false, .int .u8 0, .int .i64 0, .string ⟨#[]⟩, .slice none 0 0, .slice none 0 0] TSHOT))
   rw [HW3.out]
   clear HW3
   go_loopw [7, 8] (fun i y wr => ∃ (j : Nat) (ss : List Sh), i = .int .i64 j ∧ j ≤ n ∧ LastAt w1 wr w3.heap.size d j ss) (fun i _ _ => n - (intOf i).toNat)
   case atStart => exact ⟨0, [], rfl, by omega, HL.out⟩
   case round =>
    obtain ⟨j, ss, rfl, hj, hla⟩ := hrel
    obtain ⟨N, B2, lst, A4, c4, A5, c5, hsl, hgd, hls, hD, hNg, hbx, hvx⟩ := hla
    by_cases hlt : j < n
    ·have hX : (j : Int) < n := by omega
     obtain ⟨b2, o2, cc, rfl, hSb, _, hr2, hc2⟩ := (HV.out.ext ERs.ok hD.ext).at_ ERs.ok (k := j) (by rw [HN.out]; exact hlt)
     obtain ⟨At, ct, rfl, _, hts⟩ := ERs_cells hr2
     have t0 := hc2 0 _ rfl
     have t1 := hc2 1 _ rfl
     have t2 := hc2 2 _ rfl
     have t3 := hc2 3 _ rfl
     have e4 : ERs.size = 4 := rfl
     simp only [e4, Nat.add_zero] at t0 t1 t2 t3
     have hF : RsF (rs[j]'(by rw [HN.out]; exact hlt)) := HQ.out _ (List.getElem_mem _)
     generalize rs[j]'(by rw [HN.out]; exact hlt) = r at *
     obtain ⟨i0, hmax, hi0⟩ := run_max0 r.n hF.1
     obtain ⟨K, hK⟩ : ∃ K, i0 % 5001 = K := ⟨_, rfl⟩
     have hKl : K ≤ 5000 := by omega
     have hmod : (i0 : Int) % 5001 = (K : Int) := by rw [← hK]; rfl
     have HF := hid hF.2
     have HTS := hid hts
     have HD := hid hD
     have HBX := hid hbx
     have HLA := hid (And.intro hsl (And.intro hgd hNg))
     clear hc2 e4 hr2 hts hF hK hD hbx hvx hls hsl hgd hNg HL
     go_wp2_with fail
     obtain ⟨W4, hW4⟩ : ∃ W4, wr.alloc (.cells #[.int .i64 (K : Int), .bool r.there, .bool false, .slice At r.v.length ct] TREC15) = W4 := ⟨_, rfl⟩
     have hE4 : Ext wr W4 := by rw [← hW4]; exact (Keep.refl _ _).alloc _
     have HW4 := hid hW4
     change Calls _ _ _ (wr.alloc (.cells #[.int .i64 (K : Int), .bool r.there, .bool false, .slice At r.v.length ct] TREC15)) _
     rw [HW4.out]
     refine (shot_ok ⟨(K : Int), r.there, false, r.v⟩ rfl W4 _ At ct (HTS.out.ext ETok.ok hE4)).mono ?_
     rintro e w5 ⟨u, s, rfl, hu, hof, hE5⟩
     have hgo := sh_good hof (show (0 : Int) ≤ (K : Int) by omega) (show (K : Int) ≤ 5000 by omega) HF.out
     obtain ⟨A6, c6, A7, c7, rfl, hva⟩ := hu.parts
     have hbx5 := (HBX.out.keep hE4 id).keep hE5 id
     obtain ⟨z0, z1, z2, z3, z4, z5, z6⟩ := blk7s hbx5
     obtain ⟨f0, f1, f2, f3, f4, f5, f6⟩ := frz7s hbx5
     have HB5 := hid hbx5
     have HD5 := hid (HD.out.more (hE4.ext hE5))
     have HVA5 := hid hva
     have HGO := hid hgo
     have hz45 := hE4.size
     have hzg := HBX.out.lt
     have HE45 := hid hE5.size
     clear hu hva hgo hof hE4 hE5 hbx5 HW4 hW4 t0 t1 t2 t3 hmax hmod
     go_wp2_with fail
     change Calls _ _ _ (set7 w5 w3.heap.size (.int .i64 s.n) (.bool s.there) (U8 s.v.kind) (.int .i64 s.v.n) (.string s.v.s) (.slice A6 s.v.l.length c6) (.slice A7 s.v.o.length c7)) _
     obtain ⟨W6, hW6⟩ : ∃ W6, set7 w5 w3.heap.size (.int .i64 s.n) (.bool s.there) (U8 s.v.kind) (.int .i64 s.v.n) (.string s.v.s) (.slice A6 s.v.l.length c6) (.slice A7 s.v.o.length c7) = W6 := ⟨_, rfl⟩
     have hk6 : Keep (· = w3.heap.size) w5 W6 := by rw [← hW6]; exact set7_keep _ _ _ _ _ _ _ _ _
     have hb6 : Blk W6 w3.heap.size TSHOT #[.int .i64 s.n, .bool s.there, U8 s.v.kind, .int .i64 s.v.n, .string s.v.s, .slice A6 s.v.l.length c6, .slice A7 s.v.o.length c7] := by rw [← hW6]; exact set7_to HB5.out _ _ _ _ _ _ _
     have hz56 := hk6.size
     have hD6 := (HD5.out.set (hk6.mono fun q _ e => .inl (by rw [e]; exact HLA.out.2.2))).less (N' := fun q => q = w3.heap.size ∨ (W4.heap.size ≤ q ∧ q < w5.heap.size)) (fun k hk => by
      rcases hk with rfl | hk
      ·exact .inl HLA.out.2.2
      ·exact .inr ⟨by omega, hk.2⟩)
     have hv6 := HVA5.out.keep hk6 (fun q hq e => by have := hq.1; omega)
     rw [hW6]
     clear hW6 z0 z1 z2 z3 z4 z5 z6 f0 f1 f2 f3 f4 f5 f6
     have HB6 := hid hb6
     have HD6 := hid hD6
     have HV6 := hid hv6
     clear hk6 hb6 hD6 hv6
     refine (save_ok w1 HVA.out W6 B2 d _ _ ⟨#[115]⟩ s HGO.out.2.1 HD6.out.ext HD6.out.is (by decide) _ _ ⟨_, _, _, _, _, rfl, HV6.out⟩).mono ?_
     rintro e w7 ⟨he, hd, hk⟩
     have hsv : saveR (oneF ⟨#[115]⟩ (ss.map shB)) ⟨1048576, false, -1⟩ ⟨#[115]⟩ s = (0, oneF ⟨#[115]⟩ ((ss ++ [s]).map shB), ⟨1048576, false, -1⟩) := by
      rw [List.map_append]
      refine save_one (by decide) (by decide) HGO.out.1 ?_
      have h1 := (rows_all HLA.out.2.1).2
      have h2 := HGO.out.2.2
      have h3 := HLA.out.1
      rw [h3] at h1
      omega
     rw [hsv] at he hd
     obtain rfl : e = .returned (.int .u16 0) := he
     have HREL := hid (show LastAt w1 w7 w3.heap.size d (j + 1) (ss ++ [s]) from
      ⟨_, _, s, A6, c6, A7, c7, by rw [List.length_append, HLA.out.1]; rfl, fun x hx => (List.mem_append.1 hx).elim (fun h => HLA.out.2.1 x h) (fun h => by rw [List.mem_singleton.1 h]; exact HGO.out), .inr ⟨ss, rfl⟩, HD6.out.grow hk hd, .inl rfl,
       HB6.out.keep hk (fun hb => HD6.out.no _ hb (.inl rfl)), (HV6.out.keep hk fun q hq hb => HD6.out.no _ hb (.inr hq)).more fun q _ hq => ⟨.inr hq, by have := hq.1; omega⟩⟩)
     clear hd hk hsv
     go_wp2
     exact ⟨⟨j + 1, ss ++ [s], by go_num, by omega, HREL.out⟩, by simp [intOf]; omega⟩
    ·obtain rfl : j = n := by omega
     have hX : ¬ (j : Int) < j := by omega
     rcases hls with rfl | ⟨ss', rfl⟩
     ·exact absurd rfl hn0
     have HD := hid hD
     have HBX := hid hbx
     have HLA := hid (And.intro hsl (And.intro hgd hNg))
     have HVX := hid hvx
     clear hD hbx hvx hsl hgd hNg HL
     go_wp2_with fail
     obtain ⟨ls, hls⟩ : ∃ ls, (ss' ++ [lst]).map shB = ls := ⟨_, rfl⟩
     have hlsn : ls ≠ [] := by rw [← hls]; simp
     have HLS := hid (show ls = ss'.map shB ++ [shB lst] from by rw [← hls]; simp)
     obtain ⟨hxl, hxr⟩ := rows_all HLA.out.2.1
     have hGo := HLA.out.2.1 lst (List.mem_append_right _ List.mem_cons_self)
     rw [HLA.out.1] at hxr
     rw [hls] at HD hxl hxr
     have HXL := hid hxl
     have HXR := hid (show (rowsL ls).length ≤ 675240 by omega)
     have HGO := hid hGo
     clear hls hxl hxr hGo
     have hnew := bytes_new (w := wr) (t := TU8) (f := (0, 0)) junkL (by simp [maxLen, junkL])
     have hE5 : ∀ o, Ext wr (wr.alloc o) := fun o => (Keep.refl _ _).alloc o
     have HBX5 := hid (HBX.out.keep (hE5 (.cells #[.int .u8 0, .int .u8 0, .int .u8 0, .int .u8 9, .int .u8 1] TU8)) id)
     have HVX5 := hid (HVX.out.ext (hE5 (.cells #[.int .u8 0, .int .u8 0, .int .u8 0, .int .u8 9, .int .u8 1] TU8)))
     have HD5 := hid ((HD.out.more (hE5 (.cells #[.int .u8 0, .int .u8 0, .int .u8 0, .int .u8 9, .int .u8 1] TU8))).less (N' := N) fun k hk => .inl hk)
     refine (disk_append (wr.alloc (.cells #[.int .u8 0, .int .u8 0, .int .u8 0, .int .u8 9, .int .u8 1] TU8)) B2 d _ _ ⟨#[115, 46, 115, 110, 97, 112]⟩ _ junkL _ HD5.out.is hnew (by decide)).mono ?_
     rintro e w5 ⟨he, hd, hk⟩
     have ha := app_one (nm := ⟨#[115]⟩) (ls := ls) (R := 1048576) (b := junkL) (by decide) (by have := HXR.out; simp [junkL]; omega)
     rw [if_neg hlsn] at ha
     rw [show (⟨#[115, 46, 115, 110, 97, 112]⟩ : ByteArray).data.toList = byt (fileT ⟨#[115]⟩) from by decide, ha] at he hd
     obtain rfl : e = .returned (.int .u16 0) := he
     have HBX6 := hid (HBX5.out.keep hk fun hb => HD5.out.no _ hb HLA.out.2.2)
     have HVX6 := hid (HVX5.out.keep hk fun q hq hb => HD5.out.no _ hb hq.1)
     have HD6 := hid (show Dk w1 N w5 (moreB B2 (wr.alloc (.cells #[.int .u8 0, .int .u8 0, .int .u8 0, .int .u8 9, .int .u8 1] TU8)) w5) d [⟨byt (fileT ⟨#[115]⟩), rowsL ls ++ junkL, (rowsL ls).length⟩] ⟨1048576, false, -1⟩ from HD5.out.grow hk hd)
     clear hd hk ha hnew hE5 HBX5 HVX5 HD5 HD HBX HVX
     generalize moreB B2 (wr.alloc (.cells #[.int .u8 0, .int .u8 0, .int .u8 0, .int .u8 9, .int .u8 1] TU8)) w5 = B5 at *
     go_wp2_with fail
     refine (disk_crash w5 B5 d _ _ keep HD6.out.is).mono ?_
     rintro e w6 ⟨rfl, hd, hk⟩
     obtain ⟨jk, hjk⟩ := crash_junk (byt (fileT ⟨#[115]⟩)) ls keep.toNat
     rw [hjk] at hd
     have HBX7 := hid (HBX6.out.keep hk fun hb => HD6.out.no _ hb HLA.out.2.2)
     have HVX7 := hid (HVX6.out.keep hk fun q hq hb => HD6.out.no _ hb hq.1)
     have HD7 := hid (HD6.out.step hk hd)
     clear hd hk hjk HD6 HBX6 HVX6
     go_wp2_with fail
     have hsc := scan_rest ls (junkL.take jk) HXL.out (open_junk jk)
     refine (load_some w1 HVA.out w6 HD7.out.ext B5 d _ _ ⟨#[115]⟩ HD7.out.is (by decide) (ss'.map shB) lst HGO.out.1 HGO.out.2.1 (by rw [one_read, List.length_append, List.length_take]; have := HXR.out; simp [junkL]; omega) (by rw [one_read, hsc]; exact HLS.out)).mono ?_
     rintro e w7 ⟨u, rfl, hu, hE⟩
     obtain ⟨A6, c6, A7, c7, rfl, hv9⟩ := hu.parts
     have hb8 := HBX7.out.keep hE id
     have HVX8 := hid (fun o => (HVX7.out.ext hE).ext ((Keep.refl (fun _ => False) w7).alloc o))
     have HV9 := hid (fun o => hv9.ext ((Keep.refl (fun _ => False) w7).alloc o))
     have HEND := hid (fun o => (HD7.out.ext.ext hE).ext ((Keep.refl (fun _ => False) w7).alloc o))
     have z0 : ∀ o, (w7.alloc o).cell? ⟨w3.heap.size, 0, none⟩ = some (.int .i64 lst.n) := fun o => (hb8.alloc o).cell 0
     have z1 : ∀ o, (w7.alloc o).cell? ⟨w3.heap.size, 1, none⟩ = some (.bool lst.there) := fun o => (hb8.alloc o).cell 1
     have z2 : ∀ o, (w7.alloc o).cell? ⟨w3.heap.size, 2, none⟩ = some (U8 lst.v.kind) := fun o => (hb8.alloc o).cell 2
     have z3 : ∀ o, (w7.alloc o).cell? ⟨w3.heap.size, 3, none⟩ = some (.int .i64 lst.v.n) := fun o => (hb8.alloc o).cell 3
     have z4 : ∀ o, (w7.alloc o).cell? ⟨w3.heap.size, 4, none⟩ = some (.string lst.v.s) := fun o => (hb8.alloc o).cell 4
     have z5 : ∀ o, (w7.alloc o).cell? ⟨w3.heap.size, 5, none⟩ = some (.slice A4 lst.v.l.length c4) := fun o => (hb8.alloc o).cell 5
     have z6 : ∀ o, (w7.alloc o).cell? ⟨w3.heap.size, 6, none⟩ = some (.slice A5 lst.v.o.length c5) := fun o => (hb8.alloc o).cell 6
     clear hsc hu hE hv9 hb8 HBX7 HVX7 HD7 HLS HXL HXR HLA hlsn
     go_wp2_with fail
     refine (rsame_any lst.v.size lst.v lst.v (Nat.le_refl _) true ⟨fun _ => rfl, fun _ => rfl⟩ _ _ _ _ _ (HV9.out _) (HVX8.out _)).mono ?_
     rintro e w8 ⟨rfl, hE8⟩
     have HFIN := hid ((HEND.out _).ext hE8)
     clear hE8
     go_wp2
     go_ret
     exact ⟨by first | rfl | simp, HFIN.out⟩
end Go.Proofs.YtihaliffcobacaaGreatDoor
namespace Go.Proofs.YtihaliffcobacaaGreatDoor
open Go.ChangeShapes Go.WideShapes Go.ChangeAt Go.RowKit Go.Deep
theorem last15_lift {Q0 : Prop} (lv : Value) (l : List Rs) (keep : Int) (w : World) (h0 : Sl ERs w (fun k => k < w.heap.size) lv l) (q0 : Q0 ∧ ∀ r ∈ l, RsF r) (q2 : (Lit.int .i64 keep).wf = true) (hT : ValAny w) :
  Calls Tryz.prog 4 #[lv, .int .i64 keep] w fun e w' => e = .returned (.bool true) ∧ Below w.heap.size w w' := by
 obtain ⟨A, c, rfl, _⟩ := h0.shape
 exact (last_walk l A c keep q2 q0.2 w hT h0).mono fun e w' h => ⟨h.1, h.2.toBelow⟩
end Go.Proofs.YtihaliffcobacaaGreatDoor
