/- slices.Insert of one element into a row of the call's own, by contract. -/
import Derived.Test.YtjpbfdkpkeaofaaNetDel
import Derived.Test.YtjpbfdkpkeaofaaInsertRun
import Derived.Test.YtjpbfdkpkeaofaaGrowTail
import Derived.Test.YtjpbfdkpkeaofaaCuts
import Derived.Laws.Externs
set_option linter.unusedSimpArgs false
set_option linter.unusedVariables false
namespace Go.Proofs.Ytjpbfdkpkeaofaa
open Go.RowKit
set_option linter.unusedVariables false

theorem sz_mail : EMail.size = 3 := rfl
abbrev TS_mail : Nat := 27

theorem tail_at_mail (g n c i : Nat) {a : Int} (ha : a = i) (h1 : i ≤ n) (h2 : i < c) (w : World) :
    (Instr.sliceAt TS_mail (.slice (some ⟨g, 0, none⟩) n c) (some (.int .i64 a)) none none).run Try.prog w = .ok (.slice (some ⟨g, i * 3, none⟩) (n - i) (c - i)) w := by
  rw [run_tail (E := EMail) ty_mail i ha h1, if_neg (by omega), sz_mail]
  simp only [Option.map_some, add_lit, Nat.zero_add]
theorem list_mid {α : Type} (a b c d : List α) (k : Nat) (h : a.length = k) : (a ++ b).take k = a ∧ (a ++ b).drop k = b := by subst h; simp

set_option maxHeartbeats 3200000 in
theorem insert_mail (w : World) (base : Nat) (S S2 : BS) (v y : Value) (xs : List _) (x : _) (i vb : Nat) (cy : List Value) (hown : Own EMail w base TMAIL S v xs) (hy : y = .slice (some ⟨vb, 0, none⟩) 1 1)
    (hyb : Blk w vb TMAIL cy.toArray) (hx : EMail.rd w S2 cy x) (hi : i ≤ xs.length) (hg : ∀ g, v.ownBlock = some g → ¬ S g ∧ ¬ S2 g ∧ g ≠ vb) (hlen : xs.length ≤ 1000000) (hbase : base ≤ w.heap.size) :
    Calls Try.prog 30 #[v, .int .i64 i, y] w fun e w' => ∃ v', e = .returned v' ∧ Own EMail w' base TMAIL (fun k => S k ∨ S2 k) v' (xs.take i ++ x :: xs.drop i) ∧
      Keep (fun k => v.ownBlock = some k) w w' ∧ (v'.ownBlock = v.ownBlock ∨ ∃ k, v'.ownBlock = some k ∧ w.heap.size ≤ k) := by
  subst hy
  have hcy : cy.length = 3 := EMail.ok.len hx
  obtain ⟨A, c, rfl, hlc, hcm⟩ := hown.shape
  unfold maxLen at hcm
  rcases Nat.lt_or_ge i xs.length with hlt | hge
  · rcases hown with ⟨_, rfl⟩ | ⟨g, cap, cur, e, hb1, hblk, hcap, hcapm, hsz, hcells⟩
    · simp at hlt
    injection e with e1 _ e3
    subst e1 e3
    obtain ⟨hgS, hgS2, hgv⟩ := hg g rfl
    rw [sz_mail] at hsz hcells
    obtain ⟨n, hn⟩ : ∃ n, n = xs.length := ⟨_, rfl⟩
    obtain ⟨cs, hcs⟩ : ∃ cs, cs = cur.toList.take (n * 3) := ⟨_, rfl⟩
    rw [← hn, ← hcs] at hcells
    have hcl : cs.length = n * 3 := by rw [hcs]; simp; omega
    obtain ⟨hca, hcb⟩ := hcells.split EMail.ok i (by omega)
    rw [sz_mail] at hca hcb
    have hone := hcells.one EMail.ok
    rw [← hn] at hlt hlc hlen hi ⊢
    have HN := hid hn
    have HLEN := hid (show (xs.take i ++ x :: xs.drop i).length = n + 1 from by simp; omega)
    clear hn
    have htl := tail_at_mail g n c i (a := i) rfl (by omega) (by omega)
    have hgl : g < w.heap.size := hblk.lt
    by_cases hroom : n + 1 ≤ c
    · -- there is room: in place
      have hov : ∀ lb cb, (callFunc 36 #[.slice (some ⟨vb, 0, none⟩) 1 1, .slice (some ⟨g, (i + 1) * 3, none⟩) lb cb]).run Try.prog w = .ok (.value (.bool false)) w := fun lb cb => by
        rw [run_callFunc_extern Try.func36 (by kernel_rfl) (by kernel_rfl) (by kernel_rfl) (e := Extern.SlicesOverlaps.overlaps #[TS_mail, TS_mail] #[4]) (by kernel_rfl),
          Lib.run_overlaps_apart w TS_mail 4 TMAIL ty_mail.under 3 (fun w => size_of (E := EMail) ty_mail w) ⟨vb, 0, none⟩ ⟨g, (i + 1) * 3, none⟩ 1 1 lb cb (fun e => hgv e.symm) _ _ _ _ hyb.shape_ hblk.shape_ (by omega) (hyb.frozen _) (hyb.frozen _)]
        rfl
      go_enter Try.func30, Try.ntmps30
      have ht1 := tail_at_mail g (n + 1) c (i + 1) (a := (i : Int) + 1) (by omega) (by omega) (by omega)
      have ht2 := tail_at_mail g (n + 1) c i (a := i) rfl (by omega) (by omega)
      have hw1 : IntKind.i64.wrap ((i : Int) + 1) = (i : Int) + 1 := IntWalk.i64_in _ (by omega)
      go_wp2_with (simp only [hov])
      refine wp_region_parts [0, 1, 2, 3, 4, 5, 6, 7] [] [8] (specOf []) (fun w' => Ext w w') stable_nil (stableC_ext _) (by kernel_rfl) (by kernel_rfl) (Keep.drew (Keep.refl _ _)) ?_
      iterate 8
        (try simp only [Act.put, List.setIfInBounds_toArray, List.set_cons_zero, List.set_cons_succ])
        refine pure_run rfl rfl ?_
        apply Exists.intro
        refine ⟨fun w' => ?_, ?_⟩
        · go_simp
          rfl
      refine pure_nil ?_
      refine growP_nil fun w1 hC hK => ?_
      change wpList _ _ _ (_ :: []) _ _
      have hb1' := hblk.keep hC id
      have hcur : ∀ j u, (cs.drop (i * 3))[j]? = some u → cur[i * 3 + j]? = some u := fun j u hu => by
        rw [List.getElem?_drop, hcs] at hu
        have hj := (List.getElem?_eq_some_iff.1 hu).1
        rw [List.getElem?_take_of_lt (by simp at hj; omega)] at hu
        simpa using hu
      obtain ⟨w2, hr2, hb2, hk2⟩ := run_copy_blk (P := Try.prog) w1 TS_mail TS_mail 3 TMAIL 3 _ ty_mail g ((i + 1) * 3) (n - i) (c - (i + 1)) ⟨g, i * 3, none⟩ (n + 1 - i) (c - i) cur (cs.drop (i * 3)) hb1'
        (by rw [List.length_drop, hcl, show Nat.min (n + 1 - i) (n - i) = n - i from by simp only [Nat.min_def]; split <;> omega]; omega) (hb1'.read hcur) (by rw [List.length_drop, hcl]; omega) (fun u hu => hone u (List.mem_of_mem_drop hu))
      have HR := hid hr2
      obtain ⟨cur2, hcur2⟩ : ∃ cur2, cur2 = (cur.toList.take ((i + 1) * 3) ++ cs.drop (i * 3) ++ cur.toList.drop ((i + 1) * 3 + (cs.drop (i * 3)).length)).toArray := ⟨_, rfl⟩
      rw [← hcur2] at hb2
      have hs2 : cur2.size = cur.size := by rw [hcur2]; simp; omega
      have HB2 := hid hb2
      have HCUR2 := hid hcur2
      have hy2 := (hyb.keep hC id).keep hk2 (fun e => hgv e.symm)
      obtain ⟨w3, hr3, hb3, hk3⟩ := run_copy_blk (P := Try.prog) w2 TS_mail TS_mail 3 TMAIL 3 _ ty_mail g (i * 3) (n + 1 - i) (c - i) ⟨vb, 0, none⟩ 1 1 cur2 cy hb2
        (by rw [hcy, show Nat.min 1 (n + 1 - i) = 1 from by simp only [Nat.min_def]; split <;> omega]) (hy2.read (fun j u hu => by simpa using hu)) (by omega) (EMail.ok.one hx)
      have HR3 := hid hr3
      have HB3 := hid hb3
      have hk12 : Keep (· = g) w w2 := Keep.trans (F := (· = g)) (Keep.mono (G := (· = g)) (show Ext w w1 from hC) (fun _ _ x => x.elim)) hk2 (fun _ _ h => h)
      have hk13 : Keep (· = g) w w3 := hk12.trans hk3 (fun _ _ h => h)
      have HK3 := hid hk13
      clear hr2 hb2 hk2 hb1' hC hK hcur hcur2 hy2 hr3 hb3 hk3 hk12 hk13
      (try simp only [Act.put, List.setIfInBounds_toArray, List.set_cons_zero, List.set_cons_succ])
      refine wpList_copy_known w1 rfl (.tmp 73) (.tmp 76) TS_mail TS_mail rfl _ _ rfl rfl HR.out ?_
      (try simp only [Act.put, List.setIfInBounds_toArray, List.set_cons_zero, List.set_cons_succ])
      refine NoPanic.normal ?_
      go_wp2_with (refine wpList_copy_known (o := ⟨some 82, _, _, _, _, _⟩) _ rfl (.tmp 80) (.tmp 81) TS_mail TS_mail rfl _ _ rfl rfl HR3.out ?_)
      go_ret
      refine ⟨_, rfl, .inr ⟨g, c, _, ?_, hb1, HB3.out, ?_, hcapm, ?_, ?_⟩, HK3.out.mono fun k _ e => ?_, .inl rfl⟩
      · show Value.slice _ (n + 1) c = _
        rw [HLEN.out]
      · rw [HLEN.out]; exact hroom
      · rw [sz_mail]; simp; omega
      · rw [HLEN.out, sz_mail]
        have := splice_room cur.toList cs cy (i * 3) 3 (n * 3) hcs (by omega) hcy (by simp; omega) cur2.toList (by rw [HCUR2.out, show (i + 1) * 3 = i * 3 + 3 from by omega])
        rw [show (n + 1) * 3 = n * 3 + 3 from by omega]
        rw [this]
        refine Cells.append ((hca.keep EMail.ok HK3.out fun k hk e => hgS (e ▸ hk)).more EMail.ok fun _ _ h => .inl h) ⟨cy, _, rfl, EMail.ok.more (EMail.ok.keep hx HK3.out fun k hk e => hgS2 (e ▸ hk)) (fun _ _ h => .inr h), (hcb.keep EMail.ok HK3.out fun k hk e => hgS (e ▸ hk)).more EMail.ok fun _ _ h => .inl h⟩
      · subst e; rfl
    · -- there is none: a new row
      obtain ⟨ti, z, hi1, hz1, hsize1, hby1, hzs1⟩ := (ty_mail).info
      have hr0 := run_append_zeros (P := Try.prog) w TS_mail 3 TS_mail TMAIL ti z .i64 .i64 ty_mail.under Try.underlying3 hi1 hz1 g c i (n + 1 - i) cur hblk (by omega) (by omega) (by rw [hsize1]; omega) (by omega) (by simp only [maxLen]; omega) (by rw [hby1]; omega)
      have hC1 := grownCap_ge w (i + (n + 1 - i)) c TMAIL
      have hC2 := grownCap_le_maxLen w (i + (n + 1 - i)) c TMAIL (by simp only [maxLen]; omega)
      rw [show ((n + 1 - i : Nat) : Int) = (n : Int) + 1 - (i : Int) from by omega, hsize1] at hr0
      generalize grownCap w (i + (n + 1 - i)) c TMAIL = C at *
      rw [show i + (n + 1 - i) = n + 1 from by omega] at hr0 hC1
      obtain ⟨zz, hzz⟩ : ∃ zz, zz = Builtin.zeroCells z.cells (n + 1 - i) ++ Builtin.zeroCells z.cells (C - (n + 1)) := ⟨_, rfl⟩
      rw [Array.append_assoc, ← hzz] at hr0
      have hzl : zz.size = (C - i) * 3 := by rw [hzz, Array.size_append, size_zeroCells, size_zeroCells, hzs1]; omega
      have HR0 := hid hr0
      have hb0 : Blk (w.drew.alloc (.cells ((cur.toList.take (i * 3)).toArray ++ zz) TMAIL)) w.heap.size TMAIL ((cur.toList.take (i * 3)).toArray ++ zz) := Blk.new w.drew _ _
      have hE0 : Ext w (w.drew.alloc (.cells ((cur.toList.take (i * 3)).toArray ++ zz) TMAIL)) := (Keep.drew (Keep.refl _ _)).alloc _
      have hz0 : (w.drew.alloc (.cells ((cur.toList.take (i * 3)).toArray ++ zz) TMAIL)).heap.size = w.heap.size + 1 := by simp
      obtain ⟨w1, hw1⟩ : ∃ w1, w1 = w.drew.alloc (.cells ((cur.toList.take (i * 3)).toArray ++ zz) TMAIL) := ⟨_, rfl⟩
      rw [← hw1] at hb0 hE0 hz0 HR0
      obtain ⟨g2, hg2⟩ : ∃ g2, g2 = w.heap.size := ⟨_, rfl⟩
      rw [← hg2] at hb0 HR0
      have hs0 : ((cur.toList.take (i * 3)).toArray ++ zz).size = C * 3 := by rw [Array.size_append, hzl]; simp; omega
      have hvlt := hyb.lt
      -- the new element
      have hy1 := hyb.keep hE0 id
      obtain ⟨w2, hr2, hb2, hk2⟩ := run_copy_blk (P := Try.prog) w1 TS_mail TS_mail 3 TMAIL 3 _ ty_mail g2 (i * 3) (n + 1 - i) (C - i) ⟨vb, 0, none⟩ 1 1 _ cy hb0
        (by rw [hcy, show Nat.min 1 (n + 1 - i) = 1 from by simp only [Nat.min_def]; split <;> omega]) (hy1.read (fun j u hu => by simpa using hu)) (by omega) (EMail.ok.one hx)
      obtain ⟨cur2, hcur2⟩ : ∃ cur2, cur2 = (((cur.toList.take (i * 3)).toArray ++ zz).toList.take (i * 3) ++ cy ++ ((cur.toList.take (i * 3)).toArray ++ zz).toList.drop (i * 3 + cy.length)).toArray := ⟨_, rfl⟩
      rw [← hcur2] at hb2
      have hs2 : cur2.size = C * 3 := by rw [hcur2, ← hs0]; simp; omega
      have HR2 := hid hr2
      -- what stood behind it
      have hblk2 : Blk w2 g TMAIL cur := (hblk.keep hE0 id).keep hk2 (fun e => by omega)
      have ht1 := tail_at_mail g2 (n + 1) C i (a := i) rfl (by omega) (by omega)
      have ht2 : ∀ w', (Instr.sliceAt TS_mail (.slice (some ⟨g2, 0, none⟩) (n + 1) C) (some (.int .i64 ((i : Int) + 1))) none none).run Try.prog w' = .ok (.slice (some ⟨g2, (i + 1) * 3, none⟩) (n - i) (C - (i + 1))) w' := by
        intro w'
        rcases Nat.lt_or_ge (i + 1) C with h | h
        · have := tail_at_mail g2 (n + 1) C (i + 1) (a := (i : Int) + 1) (by omega) (by omega) h w'
          rwa [show n + 1 - (i + 1) = n - i from by omega] at this
        · omega
      have hlo : ∀ k w', Blk w' g TMAIL cur → ∀ j u, (cs.drop k)[j]? = some u → w'.cell? ((⟨g, k, none⟩ : Addr).add j) = some u := fun k w' hb => hb.read fun j u hu => by
        rw [List.getElem?_drop, hcs] at hu
        have hj := (List.getElem?_eq_some_iff.1 hu).1
        rw [List.getElem?_take_of_lt (by simp at hj; omega)] at hu
        simpa using hu
      have hcopy : ∀ w3 : World, Ext w2 w3 → ∃ w4, (Builtin.copy_ #[TS_mail, TS_mail] 3 #[.slice (some ⟨g2, (i + 1) * 3, none⟩) (n - i) (C - (i + 1)), .slice (some ⟨g, i * 3, none⟩) (n - i) (c - i)]).run Try.prog w3 = .ok (goInt (Nat.min (n - i) (n - i))) w4 ∧
          Blk w4 g2 TMAIL (cur2.toList.take ((i + 1) * 3) ++ cs.drop (i * 3) ++ cur2.toList.drop ((i + 1) * 3 + (cs.drop (i * 3)).length)).toArray ∧ Keep (· = g2) w3 w4 := fun w3 hE => by
        refine run_copy_blk (P := Try.prog) w3 TS_mail TS_mail 3 TMAIL 3 _ ty_mail g2 ((i + 1) * 3) (n - i) (C - (i + 1)) ⟨g, i * 3, none⟩ (n - i) (c - i) cur2 (cs.drop (i * 3)) (hb2.keep hE id) ?_ (hlo _ _ (hblk2.keep hE id)) ?_ (fun u hu => hone u (List.mem_of_mem_drop hu))
        · rw [List.length_drop, hcl, show Nat.min (n - i) (n - i) = n - i from by simp [Nat.min_def]]; omega
        · rw [List.length_drop, hcl]; omega
      have HCOPY := hid hcopy
      have hk02 : Ext w w2 := hE0.trans hk2 (fun k hk e => by omega)
      have HK02 := hid hk02
      have HCUR2 := hid hcur2
      have HW1 := hid hw1
      have HG2 := hid hg2
      have hw1' : IntKind.i64.wrap ((i : Int) + 1) = (i : Int) + 1 := IntWalk.i64_in _ (by omega)
      have hC3 : C ≤ 9223372036854775807 := hC2
      have HC3 := hid hC3
      clear hr0 hzz hw1 hg2 hcur2 hcopy hk02 hr2 hb2 hk2 hblk2 hy1 hb0 hE0 hz0 hs0 hi1 hz1 hsize1 hby1 hzs1 hlo hC3 hC2
      go_enter Try.func30, Try.ntmps30
      go_wp2_with (first | (at_builtin; refine Lib.wpList_append_run _ rfl (.tmp 34) (.tmp 39) TS_mail 3 rfl _ _ rfl rfl _ _ HR0.out ?_) | (refine wpList_copy_known (o := ⟨some 45, _, _, _, _, _⟩) _ rfl (.tmp 43) (.tmp 44) TS_mail TS_mail rfl _ _ rfl rfl HR2.out ?_))
      refine wp_region_parts [0, 1, 2, 3, 4, 5, 6, 7] [] [8] (specOf []) (fun w' => Ext w2 w') stable_nil (stableC_ext _) (by kernel_rfl) (by kernel_rfl) (Keep.drew (Keep.refl _ _)) ?_
      iterate 8
        (try simp only [Act.put, List.setIfInBounds_toArray, List.set_cons_zero, List.set_cons_succ])
        refine pure_run rfl rfl ?_
        apply Exists.intro
        refine ⟨fun w' => ?_, ?_⟩
        · go_simp
          rfl
      refine pure_nil ?_
      refine growP_nil fun w3 hC hK => ?_
      change wpList _ _ _ (_ :: []) _ _
      obtain ⟨w4, hr4, hb4, hk4⟩ := HCOPY.out w3 hC
      have HR4 := hid hr4
      have HB4 := hid hb4
      have HK4 := hid ((HK02.out.ext hC).trans hk4 (fun k hk e => by have := HG2.out; omega))
      clear hr4 hb4 hk4 hC hK
      (try simp only [Act.put, List.setIfInBounds_toArray, List.set_cons_zero, List.set_cons_succ])
      refine wpList_copy_known w3 rfl (.tmp 50) (.tmp 53) TS_mail TS_mail rfl _ _ rfl rfl HR4.out ?_
      (try simp only [Act.put, List.setIfInBounds_toArray, List.set_cons_zero, List.set_cons_succ])
      refine NoPanic.normal ?_
      go_wp2
      go_ret
      refine ⟨_, rfl, .inr ⟨g2, C, _, ?_, by rw [HG2.out]; exact hbase, HB4.out, ?_, HC3.out, ?_, ?_⟩, HK4.out.mono fun k _ e => e.elim, .inr ⟨g2, rfl, by rw [HG2.out]; exact Nat.le_refl _⟩⟩
      · show Value.slice _ (n + 1) C = _
        rw [HLEN.out]
      · rw [HLEN.out]; exact hC1
      · rw [sz_mail]; simp; omega
      · rw [HLEN.out, sz_mail]
        have := splice_grow (cur.toList.take (i * 3)) zz.toList cs cy (i * 3) 3 (n * 3) (by rw [hcs, List.take_take, Nat.min_eq_left (by omega)]) hcl (by omega) hcy (by rw [Array.length_toList, hzl]; omega) cur2.toList (by rw [HCUR2.out]; simp)
        rw [show (n + 1) * 3 = n * 3 + 3 from by omega, show (i + 1) * 3 = i * 3 + 3 from by omega]
        rw [this]
        refine Cells.append ((hca.keep EMail.ok HK4.out fun k hk e => e).more EMail.ok fun _ _ h => .inl h) ⟨cy, _, rfl, EMail.ok.more (EMail.ok.keep hx HK4.out fun k hk e => e) (fun _ _ h => .inr h), (hcb.keep EMail.ok HK4.out fun k hk e => e).more EMail.ok fun _ _ h => .inl h⟩
  · obtain rfl : i = xs.length := by omega
    obtain ⟨A9, hs9, _⟩ := tail_fact (P := Try.prog) EMail.ok ty_mail (hown.sl EMail.ok) (lo := xs.length) (a := (xs.length : Int)) rfl (Nat.le_refl _)
    have hyr : RowS w (fun k => k = vb) 3 (.slice (some ⟨vb, 0, none⟩) 1 1) 1 cy := ⟨by omega, _, _, rfl, Nat.le_refl _, by simp [maxLen], fun _ => ⟨vb, 0, rfl, rfl, hyb.lt, fun j u hu => by rw [Nat.zero_add, hyb.cell]; simpa using hu⟩⟩
    have HO := hid hown
    have HYR := hid hyr
    have HG := hid hg
    have HC := hid (show Cells EMail w S2 cy [x] from Cells.single hx)
    clear hown hyr hg hx
    go_enter Try.func30, Try.ntmps30
    go_wp2_with (at_builtin; refine wpList_own_append2 (E := EMail) (v := .slice A xs.length c) (ys := [x]) _ rfl (.tmp 23) (.tmp 24) EMail.ok ty_mail rfl rfl rfl HO.out HYR.out HC.out ?c1 ?c2 ?c3 hbase ?_)
    case c1 => exact fun g e => ⟨(HG.out g e).1, (HG.out g e).2.1⟩
    case c2 => simp; omega
    case c3 => simp [maxLen]; omega
    intro v' w' hown' hk hb
    obtain ⟨A', c', e', _⟩ := hown'.shape
    subst e'
    have HO' := hid hown'
    have HK := hid hk
    have HB := hid hb
    clear hown' hk hb
    go_wp2
    go_ret
    refine ⟨_, rfl, ?_, HK.out, HB.out.imp id fun h => ⟨_, h, Nat.le_refl _⟩⟩
    have := HO'.out
    rw [List.take_length, List.drop_length]
    exact this
end Go.Proofs.Ytjpbfdkpkeaofaa
