/- Do6F, MeetE: laid together. -/
import Derived.Test.YtioplgfopillnaaDoorMeB31
import Derived.Test.YtioplgfopillnaaDoorMeB38
import Derived.Test.YtioplgfopillnaaDoorMeB40
import Derived.Test.YtioplgfopillnaaDoorMeB25
import Derived.Test.YtioplgfopillnaaDoorMeB41
set_option linter.unusedSimpArgs false
set_option linter.unusedVariables false
set_option maxHeartbeats 25600000
set_option maxRecDepth 20000
namespace Go.Proofs.YtioplgfopillnaaDoor
open Go.RowKit
def Does (w0 : World) (v : V) (c : Cp) (z : V) : Prop := ∀ (w : World) (S S2 : BS) (u t : Value), Ext w0 w → VAt w S u v → CAt w S2 t c → Calls Tryd.prog 22 #[u, t] w (Do6Is w z)
inductive DoesL (w0 : World) : V → List Cp → V → Prop
 | nil (v : V) : DoesL w0 v [] v
 | cons {v y z : V} {c : Cp} {cs : List Cp} : Does w0 v c y → DoesL w0 y cs z → DoesL w0 v (c :: cs) z
theorem DoesL.head {w0 : World} {v z : V} {c : Cp} {cs : List Cp} (h : DoesL w0 v (c :: cs) z) : ∃ y, Does w0 v c y ∧ DoesL w0 y cs z := by
 cases h with
 | cons h1 h2 => exact ⟨_, h1, h2⟩
theorem DoesL.end_ {w0 : World} {v z : V} (h : DoesL w0 v [] z) : z = v := by
 cases h; rfl
theorem Do6Is.out {w w' : World} {z : V} {e : Ending} (h : Do6Is w z e w') : ∃ u, e = .returned u ∧ Ext w w' ∧ OutE z 0 w.heap.size w'.heap.size u w' := by
 obtain ⟨u, rfl, ⟨A, a, B, b, rfl, h1, h2⟩, hE⟩ := h
 exact ⟨_, rfl, hE, A, a, B, b, rfl, _, _, rfl, h1.more EVal.ok fun k h1 h2 => ⟨h2, h1⟩, h2.more EField.ok fun k h1 h2 => ⟨h2, h1⟩⟩
def DoneIs (w : World) (S : BS) (z : V) (e : Ending) (w' : World) : Prop := ∃ A a B b, e = .returned (.tuple #[.agg #[U8 z.kind, .int .i64 z.n, .string z.s, .slice A z.l.length a, .slice B z.o.length b], .bool true]) ∧ VAt w' (fun q => S q ∨ w.heap.size ≤ q) (.agg #[U8 z.kind, .int .i64 z.n, .string z.s, .slice A z.l.length a, .slice B z.o.length b]) z ∧ Ext w w'
theorem done7_ok (w0 w : World) (hw : Ext w0 w) (S S2 : BS) (u lv : Value) (v z : V) (cs : List Cp) (hv : VAt w S u v) (hl : Sl ECp w S2 lv cs) (hd : DoesL w0 v cs z) :
  Calls Tryd.prog 19 #[u, lv] w (DoneIs w S z) := by
 obtain ⟨lx, ox, rfl, k1, k2⟩ := hv.cut
 obtain ⟨Bl, dl, rfl, _⟩ := k1.shape
 obtain ⟨Bo, do_, rfl, _⟩ := k2.shape
 have hl := hl.more (S' := fun k => k < w.heap.size) ECp.ok fun k h _ => h
 obtain ⟨A, ca, rfl, hlc, hcm⟩ := hl.shape
 unfold maxLen at hcm
 obtain ⟨W, hW⟩ : ∃ W, (w.alloc (.cells #[U8 v.kind, .int .i64 v.n, .string v.s, .slice Bl v.l.length dl, .slice Bo v.o.length do_] TVAL)).alloc (.cells #[.int .u8 0, .int .i64 0, .string ⟨#[]⟩, .slice none 0 0, .slice none 0 0] TVAL) = W := ⟨_, rfl⟩
 have hE : Ext w W := by rw [← hW]; exact ((Keep.refl _ _).alloc _).alloc _
 have hsz : W.heap.size = w.heap.size + 2 := by rw [← hW]; simp
 have hb : Blk W w.heap.size TVAL #[U8 v.kind, .int .i64 v.n, .string v.s, .slice Bl v.l.length dl, .slice Bo v.o.length do_] := by rw [← hW]; exact (Blk.new _ _ _).alloc _
 have hrb : Blk W (w.heap.size + 1) TVAL #[.int .u8 0, .int .i64 0, .string ⟨#[]⟩, .slice none 0 0, .slice none 0 0] := by
  have := Blk.new (w.alloc (.cells #[U8 v.kind, .int .i64 v.n, .string v.s, .slice Bl v.l.length dl, .slice Bo v.o.length do_] TVAL)) TVAL #[.int .u8 0, .int .i64 0, .string ⟨#[]⟩, .slice none 0 0, .slice none 0 0]
  rw [World.size_alloc, hW] at this
  exact this
 have HV := hid (show VAt W (fun q => q ≠ w.heap.size ∧ q ≠ w.heap.size + 1 ∧ (S q ∨ w.heap.size ≤ q)) (.agg #[U8 v.kind, .int .i64 v.n, .string v.s, .slice Bl v.l.length dl, .slice Bo v.o.length do_]) v from VAt.more ⟨_, _, rfl, k1.ext EVal.ok hE, k2.ext EField.ok hE⟩ fun k _ h => by have := h.2; exact ⟨by omega, by omega, .inl h.1⟩)
 have HL := hid ((hl.ext ECp.ok hE))
 have HE := hid hE
 have HSZ := hid hsz
 have HB := hid hb
 have HRB := hid hrb
 have HX := hid (hw.ext hE)
 have HW0 := hid hw.size
 have HD := hid hd
 obtain ⟨n, hn⟩ : ∃ n, cs.length = n := ⟨_, rfl⟩
 have HN := hid hn
 rw [hn] at HL hlc ⊢
 clear k1 k2 hE hsz hb hrb hw hd hl hn hv
 go_enter Tryd.func19, Tryd.ntmps19
 go_wp2_with fail
 go_loopw [6, 7, 8] (fun i _ _ wr => ∃ (j : Nat) (y : V) (lv ov : Value), i = .int .i64 j ∧ j ≤ n ∧ DoesL w0 y (cs.drop j) z ∧ Blk wr w.heap.size TVAL #[U8 y.kind, .int .i64 y.n, .string y.s, lv, ov] ∧
  VAt wr (fun q => q ≠ w.heap.size ∧ q ≠ w.heap.size + 1 ∧ (S q ∨ w.heap.size ≤ q)) (.agg #[U8 y.kind, .int .i64 y.n, .string y.s, lv, ov]) y ∧ Keep (· = w.heap.size) W wr) (fun i _ _ _ => n - (intOf i).toNat)
 case atStart => exact ⟨0, v, _, _, rfl, by omega, HD.out, HB.out, HV.out, Keep.refl _ _⟩
 case round =>
  obtain ⟨j, y, lv, ov, rfl, hj, hd, hb, hva, hkr⟩ := hrel
  obtain ⟨lv', ov', e, hxl, hxo⟩ := hva
  obtain ⟨e1, e2⟩ : lv = lv' ∧ ov = ov' := by simp at e; exact e
  subst e1 e2
  clear e
  obtain ⟨A2, c2, rfl, h2l, h2m⟩ := hxl.shape
  obtain ⟨A3, c3, rfl, h3l, h3m⟩ := hxo.shape
  have HY := hid (show VAt wr (fun q => q ≠ w.heap.size ∧ q ≠ w.heap.size + 1 ∧ (S q ∨ w.heap.size ≤ q)) (.agg #[U8 y.kind, .int .i64 y.n, .string y.s, .slice A2 y.l.length c2, .slice A3 y.o.length c3]) y from ⟨_, _, rfl, hxl, hxo⟩)
  have HDY := hid hd
  have HK := hid hkr
  have HBY := hid hb
  have hkz := hkr.size
  have hws := HSZ.out
  have HBR := hid (HRB.out.keep hkr (by omega))
  have HLr := hid (HL.out.keep ECp.ok hkr fun q hq e => by omega)
  have HX0 := hid (HX.out)
  obtain ⟨q0, q1, q2, q3, q4⟩ := blk5 hb
  clear hxl hxo hd hkr hb hws
  by_cases hlt : j < n
  ·have hltX : (j : Int) < n := by omega
   have hj' : j < cs.length := by rw [HN.out]; exact hlt
   obtain ⟨bp, op, c0, rfl, _, _, ⟨pv, lc, oc, rfl, p1, p2, p3⟩, hcell⟩ := HLr.out.at_ ECp.ok hj'
   have HDD := hid (by have := HDY.out; rw [List.drop_eq_getElem_cons hj'] at this; exact this.head)
   generalize cs[j] = c at *
   obtain ⟨Ap, cp, rfl, _⟩ := p1.shape
   obtain ⟨Al, cl, rfl, _⟩ := p2.shape
   obtain ⟨Ao, co, rfl, _⟩ := p3.shape
   have HCC := hid (show CAt wr (fun k => k < w.heap.size) (.agg (cpCells c (.slice Ap c.path.length cp) (.slice Al c.v.l.length cl) (.slice Ao c.v.o.length co))) c from ⟨_, _, _, rfl, p1, p2, p3⟩)
   obtain ⟨z1, hdo, hrest⟩ := HDD.out
   have HDO := hid hdo
   have HRE := hid hrest
   have e12 : ECp.size = 12 := rfl
   have g0 := hcell 0 _ rfl
   have g1 := hcell 1 _ rfl
   have g2 := hcell 2 _ rfl
   have g3 := hcell 3 _ rfl
   have g4 := hcell 4 _ rfl
   have g5 := hcell 5 _ rfl
   have g6 := hcell 6 _ rfl
   have g7 := hcell 7 _ rfl
   have g8 := hcell 8 _ rfl
   have g9 := hcell 9 _ rfl
   have g10 := hcell 10 _ rfl
   have g11 := hcell 11 _ rfl
   simp only [e12, Nat.add_zero] at g0 g1 g2 g3 g4 g5 g6 g7 g8 g9 g10 g11
   have hwr : Ext w0 wr := HX.out.trans HK.out fun k hk e => by have := HW0.out; omega
   have HWR := hid hwr
   clear hcell p1 p2 p3 e12 hdo hrest hwr hj'
   go_wp2_with fail
   refine H.wp_region_frees [8] [1, 2] [0, 3, 4, 5, 6, 7, 8, 9] [10] [11]
    (H.specOf [(5, OutEQ wr.heap.size z1 0), (9, BoxQ wr.heap.size)])
    (fun w' => Ext wr w') ?_ (H.stableC_ext _) (by kernel_rfl) (by intro k hk; simp at hk; rcases hk with rfl | rfl <;> rfl) (by kernel_rfl) (Keep.drew (Keep.refl _ _)) ?_
   ·exact H.stable_cons (fun n m v w w' h he => h.ext he) (H.stable_cons (fun n m v w w' h he => h.ext he) H.stable_nil)
   iterate 2
    (try simp only [Act.put, sqa, sqb, sqc])
    refine H.pure_run rfl rfl ?_
    apply Exists.intro
    refine ⟨fun w' => ?_, ?_⟩
    ·go_simp
     rfl
   refine H.pure_nil ?_
   iterate 3
    (try simp only [Act.put, sqa, sqb, sqc])
    refine H.growP_run rfl rfl rfl ?_
    apply Exists.intro
    refine ⟨fun w' hC hK => ?_, ?_⟩
    ·have q0 := sqw hC q0
     have q1 := sqw hC q1
     have q2 := sqw hC q2
     have q3 := sqw hC q3
     have q4 := sqw hC q4
     have g0 := sqw hC g0
     have g1 := sqw hC g1
     have g2 := sqw hC g2
     have g3 := sqw hC g3
     have g4 := sqw hC g4
     have g5 := sqw hC g5
     have g6 := sqw hC g6
     have g7 := sqw hC g7
     have g8 := sqw hC g8
     have g9 := sqw hC g9
     have g10 := sqw hC g10
     have g11 := sqw hC g11
     go_simp
     rfl
   (try simp only [Act.put, sqa, sqb, sqc])
   refine H.growP_eff rfl rfl rfl (fun w' hC hK => ?_) (fun v5 nv5 mv5 hv5 => ?_)
   ·have hcall := (HDO.out w' _ _ _ _ (HWR.out.ext hC) (HY.out.ext hC) (HCC.out.ext hC)).mono fun e w'' h => (by obtain ⟨u, h1, h2, h3⟩ := h.out; exact ⟨u, h1, h2, hC.size, h3⟩ : ∃ u, e = .returned u ∧ Ext w' w'' ∧ OutEQ wr.heap.size z1 0 w'.heap.size w''.heap.size u w'')
    unfold H.growAt
    go_simp
    exact H.grow_call hcall
   obtain ⟨_, _, _, Az1, cz1, Az2, cz2, rfl, _⟩ := hv5.head
   iterate 3
    (try simp only [Act.put, sqa, sqb, sqc])
    refine H.growP_run rfl rfl rfl ?_
    apply Exists.intro
    refine ⟨fun w' hC hK => ?_, ?_⟩
    ·go_simp
     rfl
   (try simp only [Act.put, sqa, sqb, sqc])
   refine H.growP_eff rfl rfl rfl (fun w' hC hK => ?_) (fun v9 nv9 mv9 hv9 => ?_)
   ·unfold H.growAt
    go_simp
    exact ⟨(Keep.refl _ _).alloc _, hC.size, rfl, by simp, Blk.new _ _ _⟩
   obtain ⟨_, _, hn, rfl, hnm, _⟩ := hv9.head
   refine H.growP_nil fun w7 hC hK => ?_
   have hbox : BoxQ wr.heap.size nv9 mv9 (.pointer (some ⟨nv9, 0, none⟩)) w7 := (hK.1 (9, _) List.mem_cons_self).1
   have houtq : OutEQ wr.heap.size z1 0 nv5 mv5 (.tuple #[.agg #[U8 z1.kind, .int .i64 z1.n, .string z1.s, .slice Az1 z1.l.length cz1, .slice Az2 z1.o.length cz2], .int .i64 0]) w7 := (hK.1 (5, _) (List.mem_cons_of_mem _ List.mem_cons_self)).1
   have hap : mv9 ≤ nv5 ∨ mv5 ≤ nv9 := hK.2 (9, _) List.mem_cons_self (5, _) (List.mem_cons_of_mem _ List.mem_cons_self) (by simp)
   have hout := houtq.2
   have hn5 : wr.heap.size ≤ nv5 := houtq.1
   obtain ⟨bq0, bq1, bq2, bq3, bq4⟩ := blk5 hbox.2.2.2
   obtain ⟨bf0, bf1, bf2, bf3, bf4⟩ := sqf5 hbox.2.2.2
   have HF := hid (OutE.fill hC hbox hout hap)
   clear hbox hout houtq hap hK hn hnm q0 q1 q2 q3 q4 g0 g1 g2 g3 g4 g5 g6 g7 g8 g9 g10 g11 hv5 hv9 hC
   change wpList _ _ _ (_ :: []) _ _
   (try simp only [Act.put, sqa, sqb, sqc])
   go_wp2_with fail
   refine H.Then.normal ?_
   iterate 1
    (try simp only [Act.put, sqa, sqb, sqc])
    refine H.pure_run rfl rfl ?_
    apply Exists.intro
    refine ⟨fun w' => ?_, ?_⟩
    ·go_simp
     rfl
   refine H.pure_nil ?_
   refine NoPanic.normal ?_
   (try simp only [Act.put, sqa, sqb, sqc])
   obtain ⟨hE8, hB8, hV8⟩ := HF.out
   clear HF bq0 bq1 bq2 bq3 bq4 bf0 bf1 bf2 bf3 bf4
   change Exit.then _ _ Exit.normal _ (fillW w7 nv9 (U8 z1.kind) (.int .i64 z1.n) (.string z1.s) (.slice Az1 z1.l.length cz1) (.slice Az2 z1.o.length cz2))
   generalize fillW w7 nv9 (U8 z1.kind) (.int .i64 z1.n) (.string z1.s) (.slice Az1 z1.l.length cz1) (.slice Az2 z1.o.length cz2) = w8 at *
   have hws := HSZ.out
   have hby := HBY.out.keep hE8 id
   have hbr := HBR.out.keep hE8 id
   have HKr := hid (HK.out.trans hE8 fun q _ h => h.elim)
   have HV8 := hid hV8
   obtain ⟨q0, q1, q2, q3, q4⟩ := blk5 hby
   obtain ⟨f0, f1, f2, f3, f4⟩ := sqf5 hby
   obtain ⟨s0, s1, s2, s3, s4⟩ := blk5 hB8
   have hk := set5_keep w8 w.heap.size 0 (U8 z1.kind) (.int .i64 z1.n) (.string z1.s) (.slice Az1 z1.l.length cz1) (.slice Az2 z1.o.length cz2)
   have HR := hid (And.intro (show Blk (fillW w8 w.heap.size (U8 z1.kind) (.int .i64 z1.n) (.string z1.s) (.slice Az1 z1.l.length cz1) (.slice Az2 z1.o.length cz2)) w.heap.size TVAL #[U8 z1.kind, .int .i64 z1.n, .string z1.s, .slice Az1 z1.l.length cz1, .slice Az2 z1.o.length cz2] from set5_to hby rfl _ _ _ _ _)
    (And.intro (show VAt (fillW w8 w.heap.size (U8 z1.kind) (.int .i64 z1.n) (.string z1.s) (.slice Az1 z1.l.length cz1) (.slice Az2 z1.o.length cz2)) (fun q => q ≠ w.heap.size ∧ q ≠ w.heap.size + 1 ∧ (S q ∨ w.heap.size ≤ q)) (.agg #[U8 z1.kind, .int .i64 z1.n, .string z1.s, .slice Az1 z1.l.length cz1, .slice Az2 z1.o.length cz2]) z1 from (hV8.keep hk fun q hq e => by omega).more fun q _ hq => ⟨by omega, by omega, .inr (by omega)⟩)
     (show Keep (· = w.heap.size) W (fillW w8 w.heap.size (U8 z1.kind) (.int .i64 z1.n) (.string z1.s) (.slice Az1 z1.l.length cz1) (.slice Az2 z1.o.length cz2)) from HKr.out.trans hk fun q _ h => h)))
   clear hby hbr hk hE8 hB8 hV8
   go_wp2
   go_roundw
   case rel => exact ⟨j + 1, z1, _, _, by go_num, by omega, HRE.out, HR.out⟩
   case measure => simp [intOf]; omega
  ·obtain rfl : j = n := by omega
   have hltX : ¬ (j : Int) < j := by omega
   have hws := HSZ.out
   have hzy : z = y := by
    have := HDY.out
    rw [List.drop_of_length_le (by rw [HN.out]; exact Nat.le_refl _)] at this
    exact this.end_
   have HZY := hid hzy
   clear hzy
   obtain ⟨r0, r1, r2, r3, r4⟩ := blk5 HBR.out
   obtain ⟨f0, f1, f2, f3, f4⟩ := sqf5 HBR.out
   have hk := set5_keep wr (w.heap.size + 1) 0 (U8 y.kind) (.int .i64 y.n) (.string y.s) (.slice A2 y.l.length c2) (.slice A3 y.o.length c3)
   have HT := hid (ret5 (HE.out.trans HK.out fun q hq e => by omega) (by omega) HBR.out (U8 y.kind) (.int .i64 y.n) (.string y.s) (.slice A2 y.l.length c2) (.slice A3 y.o.length c3))
   have HVF := hid (show VAt (fillW wr (w.heap.size + 1) (U8 y.kind) (.int .i64 y.n) (.string y.s) (.slice A2 y.l.length c2) (.slice A3 y.o.length c3)) (fun q => S q ∨ w.heap.size ≤ q) (.agg #[U8 y.kind, .int .i64 y.n, .string y.s, .slice A2 y.l.length c2, .slice A3 y.o.length c3]) y from (HY.out.keep hk fun q hq e => hq.2.1 e).more fun q _ hq => hq.2.2)
   clear hk
   go_wp2
   obtain ⟨hE5, t0, t1, t2, t3, t4⟩ := HT.out
   change bodyPost _ _ _ _ _ (fillW wr (w.heap.size + 1) (U8 y.kind) (.int .i64 y.n) (.string y.s) (.slice A2 y.l.length c2) (.slice A3 y.o.length c3))
   generalize fillW wr (w.heap.size + 1) (U8 y.kind) (.int .i64 y.n) (.string y.s) (.slice A2 y.l.length c2) (.slice A3 y.o.length c3) = w9 at *
   refine bodyPost_ret (v := .tuple #[.agg #[U8 y.kind, .int .i64 y.n, .string y.s, .slice A2 y.l.length c2, .slice A3 y.o.length c3], .bool true]) (by simp [results, Tryd.results19, go_sem, t0, t1, t2, t3, t4]) rfl ?_
   rw [HZY.out]
   exact ⟨_, _, _, _, rfl, HVF.out, hE5⟩
theorem sizes_erase : ∀ (l : List V) (i : Nat) (x : V), l[i]? = some x → V.sizes (l.eraseIdx i) + x.size = V.sizes l
 | [], i, x, h => by simp at h
 | v :: vs, 0, x, h => by simp only [List.getElem?_cons_zero, Option.some.injEq] at h; subst h; simp only [List.eraseIdx_cons_zero, V.sizes]; omega
 | v :: vs, i + 1, x, h => by simp only [List.eraseIdx_cons_succ, V.sizes]; have := sizes_erase vs i x (by simpa using h); omega
theorem sizes_erase_le : ∀ (l : List V) (i : Nat), V.sizes (l.eraseIdx i) ≤ V.sizes l
 | [], i => by simp
 | v :: vs, 0 => by simp only [List.eraseIdx_cons_zero, V.sizes]; omega
 | v :: vs, i + 1 => by simp only [List.eraseIdx_cons_succ, V.sizes]; have := sizes_erase_le vs i; omega
theorem sizes_ins (l : List V) (i : Nat) (x : V) : V.sizes (l.take i ++ x :: l.drop i) = V.sizes l + x.size := by
 have h : V.sizes (l.take i) + V.sizes (l.drop i) = V.sizes l := by rw [← V.sizes_append, List.take_append_drop]
 rw [V.sizes_append, V.sizes]; omega
theorem doL_sizes {l ys : List V} {c : Cm V} (h : doL l c = some ys) : V.sizes ys ≤ V.sizes l + c.x.size := by
 unfold doL at h
 split at h
 ·split at h
  ·have h := Option.some.inj h
   subst h
   rw [sizes_ins]; exact Nat.le_refl _
  ·split at h
   ·have h := Option.some.inj h
    subst h
    have := sizes_erase_le l c.i.toNat; omega
   ·split at h
    ·have h := Option.some.inj h
     subst h
     exact V.sizes_set _ _ _
    ·rw [Option.map_eq_some_iff] at h
     obtain ⟨x, hx, rfl⟩ := h
     rw [sizes_ins]
     have := sizes_erase l _ x hx; omega
 ·cases h
theorem doX_size {x : V} {c : Cp} (h : CanX x c) : (doX x c).size ≤ x.size + c.v.size + 1 := by
 have h0 := V.size_eq x
 rcases h with ⟨_, h⟩ | ⟨_, _, h, _⟩ | ⟨_, h⟩ | ⟨_, _, h⟩
 ·rw [doX_1 h, V.size_eq]; show 1 + V.sizes x.l + F.sizes x.o ≤ _; omega
 ·rw [doX_89 (h.elim (fun h => .inl h.1) fun h => .inr h.1), V.size_eq]; show 1 + V.sizes x.l + F.sizes x.o ≤ _; omega
 ·obtain ⟨ys, h1, h2⟩ := doX_l h
  have h3 := doL_sizes h1
  have h3 : V.sizes ys ≤ V.sizes x.l + c.v.size := h3
  rw [h2, V.size_eq]; show 1 + V.sizes ys + F.sizes x.o ≤ _; omega
 ·have h3 := fldR_sizes (.mk c.key c.v) (c.kind.toNat == 3) x.o
  rw [F.size] at h3
  rw [doX_23 (h.imp id fun h => h.1), V.size_eq]; show 1 + V.sizes x.l + F.sizes (fldR _ _ _) ≤ _; omega
theorem pdo_does {w0 : World} (hva : ValAny w0) (hD : DecAny w0) {v z : V} {c : Cp} (hs : Snd6 c) (hsz : v.size ≤ 100000) (hcv : c.v.size ≤ 300) (h : PDo v c z) : Does w0 v c z ∧ z.size ≤ 2 * v.size + 400 := by
 obtain ⟨x, hg, hc, hz⟩ := h
 have h1 := getV_size _ _ _ hg
 have h2 := doX_size hc
 have h3 := putV_size _ _ _ _ hz
 have h4 := V.size_eq x
 have h5 := V.sizes_len x.l
 have h6 := F.sizes_len x.o
 refine ⟨fun w S S2 u t hw hv hcc => ?_, by omega⟩
 have hc0 := hc
 rcases hc with ⟨hk, h⟩ | ⟨hk, ha, h, _, hcs⟩ | ⟨hk, h⟩ | ⟨hk, _, h⟩
 ·rw [doX_1 h] at hz
  exact rdo6_add w0 hva w hw S S2 u t v x z c hv hcc hs hg (by omega) h hk hz (by rw [doX_1 h] at h2; omega)
 ·have h8 : c.kind = 8 ∨ c.kind = 9 := h.elim (fun h => .inl h.1) fun h => .inr h.1
  rw [doX_89 h8] at hz
  exact rdo6_text w0 hva w hw S S2 u t v x z c hv hcc hs hg (by omega) ha hk hD h (by omega) hz (by rw [doX_89 h8] at h2; omega)
 ·obtain ⟨ys, q1, q2⟩ := doX_l h
  rw [q2] at hz
  exact rdo6_list w0 hva w hw S S2 u t v x z c hv hcc hs hg (by omega) (by omega) (by omega) hk ys q1 hz (by rw [q2] at h2; omega)
 ·have h8 : c.kind = 2 ∨ c.kind = 3 := h.imp id fun h => h.1
  rw [doX_23 h8] at hz
  exact rdo6_put w0 hva w hw S S2 u t v x z c hv hcc hs hg (by omega) (by omega) h hk hz (by rw [doX_23 h8] at h2; omega)
structure Kin (x c : Cp) : Prop where
 kind : c.kind = x.kind
 key : c.key = x.key
 v : c.v = x.v
 s : c.s = x.s
 i : c.i = x.i ∨ famN x.kind.toNat = 4 ∨ famN x.kind.toNat = 3
 j : ¬ x.kind = 7 → c.j = x.j
 n : ¬ x.kind = 9 → c.n = x.n
 p : c.path = x.path ∨ ∃ k s i, x.path[k]? = some s ∧ c.path = x.path.set k { s with i := i } ∧ (s.list = true ∨ i = s.i)
theorem Kin.refl (x : Cp) : Kin x x := ⟨rfl, rfl, rfl, rfl, .inl rfl, fun _ => rfl, fun _ => rfl, .inl rfl⟩
theorem thrL_o {s : St} {y : Cp} (h : s.list = false) : (thrL s y).1 = s.i := by
 unfold thrL
 split
 ·rfl
 ·split
  ·rename_i h2; rw [h] at h2; exact absurd h2.2 (by decide)
  ·rfl
theorem turnL_j {ak : UInt8} {ai aj : Int} {bk : UInt8} {bi bj : Int} {left : Bool} {q : Int × Int} (h : turnL ak ai aj bk bi bj left = some q) (hk : ¬ ak = 7) : q.2 = aj := by
 unfold turnL at h
 rw [if_neg hk] at h
 repeat' split at h
 all_goals first | (cases h; rfl) | cases h
theorem tturn_n {ak : UInt8} {ai an : Int} {bk : UInt8} {bi bn rb : Int} {left : Bool} {q : Int × Int} (h : q ∈ tturn ak ai an bk bi bn rb left) (h9 : ¬ ak = 9) : q.2 = an := by
 unfold tturn at h
 by_cases h0 : tknown ak = false ∨ tknown bk = false
 ·rw [if_pos h0] at h; rw [List.mem_singleton.1 h]
 ·rw [if_neg h0] at h
  by_cases h8 : ak = 8
  ·rw [if_pos h8] at h; rw [List.mem_singleton.1 h]
  ·exfalso
   apply h0
   refine .inl ?_
   unfold tknown
   simp [h8, h9]
theorem turn_kin {b : Bool} {x y c : Cp} {left : Bool} (h : c ∈ turnC b x y left) : Kin x c := by
 unfold turnC at h
 split at h
 ·split at h
  ·rename_i s hs
   split at h
   ·rw [List.mem_singleton.1 h]
    refine ⟨rfl, rfl, rfl, rfl, .inl rfl, fun _ => rfl, fun _ => rfl, .inr ⟨_, s, _, hs, rfl, ?_⟩⟩
    cases hl : s.list with
    | true => exact .inl rfl
    | false => exact .inr (thrL_o hl)
   ·cases h
  ·unfold besL at h
   split at h
   ·rw [List.mem_singleton.1 h]; exact Kin.refl x
   ·split at h
    ·rename_i h4
     obtain ⟨q, hq, rfl⟩ := List.mem_map.1 h
     exact ⟨rfl, rfl, rfl, rfl, .inr (.inl h4), fun h7 => turnL_j (by simpa using hq) h7, fun _ => rfl, .inl rfl⟩
    ·split at h
     ·rename_i h3
      obtain ⟨q, hq, rfl⟩ := List.mem_map.1 h
      exact ⟨rfl, rfl, rfl, rfl, .inr (.inr h3), fun _ => rfl, fun h9 => tturn_n hq h9, .inl rfl⟩
     ·split at h
      ·cases h
      ·rw [List.mem_singleton.1 h]; exact Kin.refl x
 ·rw [List.mem_singleton.1 h]; exact Kin.refl x
theorem getV_i0 : ∀ (p : List St) (v x : V), getV v p = some x → ∀ s ∈ p, s.list = true → 0 ≤ s.i
 | [], _, _, _, s, hs, _ => by cases hs
 | t :: p, v, x, h, s, hs, hl => by
  cases e : stepV v t with
  | none => simp only [getV, e] at h; cases h
  | some loc =>
   obtain ⟨y, hy⟩ := stepV_child e
   rw [getV_cons e hy] at h
   rcases List.mem_cons.1 hs with rfl | hs
   ·rw [stepV_l hl] at e
    by_cases hc : v.kind = 4 ∧ 0 ≤ s.i ∧ s.i < v.l.length
    ·exact hc.2.1
    ·rw [if_neg hc] at e; cases e
   ·exact getV_i0 p y x h s hs hl
theorem says_fam {k : UInt8} (h : famN k.toNat = 4 ∨ famN k.toNat = 3) : (saysN k.toNat).contains 73 = true := by
 have hk : k.toNat = 4 ∨ k.toNat = 5 ∨ k.toNat = 6 ∨ k.toNat = 7 ∨ k.toNat = 8 ∨ k.toNat = 9 := by
  unfold famN at h
  repeat' split at h
  all_goals omega
 rcases hk with h | h | h | h | h | h <;> rw [h] <;> decide
theorem snd6_kin {x c : Cp} {v z : V} (hx : Snd6 x) (hk : Kin x c) (h : PDo v c z) : Snd6 c := by
 obtain ⟨y, hg, hc, _⟩ := h
 obtain ⟨kk, k1, k2, k3, ki, kj, kn, kp⟩ := hk
 have hlen : c.path.length = x.path.length := by rcases kp with h | ⟨k, s, i, _, h, _⟩ <;> rw [h]; rw [List.length_set]
 have hmem : ∀ s ∈ c.path, s ∈ x.path ∨ ∃ t ∈ x.path, s.list = true ∧ t.list = true ∧ s.key = t.key := by
  intro s hs
  rcases kp with h | ⟨k, t, i, h1, h, h2⟩
  ·exact .inl (h ▸ hs)
  ·rw [h] at hs
   rcases List.mem_or_eq_of_mem_set hs with hs | rfl
   ·exact .inl hs
   ·have ht := List.mem_of_getElem? h1
    rcases h2 with h2 | h2
    ·exact .inr ⟨t, ht, h2, h2, rfl⟩
    ·subst h2; exact .inl ht
 have hbad : ∀ s ∈ c.path, badS s = false := by
  intro s hs
  have hb : ∀ t ∈ x.path, badS t = false := fun t ht => by
   have h1 := hx.path.2
   rw [List.any_eq_false] at h1
   simpa using h1 t ht
  rcases hmem s hs with h | ⟨t, ht, hl, hl2, hkey⟩
  ·exact hb s h
  ·have h1 := hb t ht
   have h2 := getV_i0 _ _ _ hg s hs hl
   unfold badS at h1 ⊢
   rw [hl2] at h1
   rw [hl]
   simp only [if_true, Bool.or_eq_false_iff, Bool.not_eq_false', decide_eq_false_iff_not] at h1 ⊢
   exact ⟨by rw [hkey]; exact h1.1, by omega⟩
 have hi0 : 0 ≤ c.i := by
  rcases hc with ⟨_, h⟩ | ⟨_, _, h, _⟩ | ⟨_, h⟩ | ⟨_, _, h⟩
  ·rcases ki with ki | ki
   ·rw [ki]; exact hx.i0
   ·rw [← kk, h] at ki; exact absurd ki (by decide)
  ·rcases h with ⟨_, i, h, _⟩ | ⟨_, i, m, h, _⟩ <;> omega
  ·rcases check_ok h with h | h | h | h <;> exact h.2.1
  ·rcases ki with ki | ki
   ·rw [ki]; exact hx.i0
   ·rw [← kk] at ki; rcases h with h | ⟨h, _⟩ <;> (rw [h] at ki; exact absurd ki (by decide))
 have hj0 : 0 ≤ c.j := by
  by_cases h7 : x.kind = 7
  ·rcases hc with ⟨_, h⟩ | ⟨_, _, h, _⟩ | ⟨_, h⟩ | ⟨_, _, h⟩
   ·rw [kk, h7] at h; exact absurd h (by decide)
   ·rcases h with ⟨h, _⟩ | ⟨h, _⟩ <;> (rw [kk, h7] at h; exact absurd h (by decide))
   ·rcases check_ok h with h | h | h | h
    ·have := h.1; rw [kk, h7] at this; exact absurd this (by decide)
    ·have := h.1; rw [kk, h7] at this; exact absurd this (by decide)
    ·have := h.1; rw [kk, h7] at this; exact absurd this (by decide)
    ·exact h.2.2.2.1
   ·rcases h with h | ⟨h, _⟩ <;> (rw [kk, h7] at h; exact absurd h (by decide))
  ·rw [kj h7]; exact hx.j0
 have htd : c.kind.toNat = 9 → 1 ≤ c.n := by
  intro h9
  have h9 : c.kind = 9 := UInt8.toNat_inj.1 h9
  rcases hc with ⟨_, h⟩ | ⟨_, _, h, _⟩ | ⟨_, h⟩ | ⟨_, _, h⟩
  ·rw [h9] at h; exact absurd h (by decide)
  ·rcases h with ⟨h, _⟩ | ⟨h, i, m, _, h2, h3, _⟩
   ·rw [h9] at h; exact absurd h (by decide)
   ·omega
  ·rcases check_kind h with h | h | h | h <;> (rw [h9] at h; exact absurd h (by decide))
  ·rcases h with h | ⟨h, _⟩ <;> (rw [h9] at h; exact absurd h (by decide))
 have h7J : ¬ x.kind = 7 ∨ (saysN x.kind.toNat).contains 74 = true := by
  by_cases h : x.kind = 7
  ·rw [h]; exact .inr (by decide)
  ·exact .inl h
 have h9N : ¬ x.kind = 9 ∨ (saysN x.kind.toNat).contains 78 = true := by
  by_cases h : x.kind = 9
  ·rw [h]; exact .inr (by decide)
  ·exact .inl h
 exact { kind := by rw [kk]; exact hx.kind, path := ⟨by rw [hlen]; exact hx.path.1, by rw [List.any_eq_false]; intro s hs; rw [hbad s hs]; decide⟩, K := by rw [kk, k1]; exact hx.K,
         I := by rw [kk]; exact ki.elim (fun h => by rw [h]; exact hx.I) fun h => .inl (says_fam h),
         J := by rw [kk]; exact h7J.elim (fun h => by rw [kj h]; exact hx.J) .inl,
         N := by rw [kk]; exact h9N.elim (fun h => by rw [kn h]; exact hx.N) .inl,
         S := by rw [kk, k3]; exact hx.S, V := by rw [kk, k2]; exact hx.V, vkey := by rw [k1]; exact hx.vkey, vs := by rw [k3]; exact hx.vs, i0 := hi0, j0 := hj0, tins := by rw [kk, k3]; exact hx.tins, tdel := htd,
         snd := by rw [k2]; exact hx.snd, deep := by rw [hlen, k2]; exact hx.deep, weight := by rw [k2]; exact hx.weight, big := by rw [k2]; exact hx.big, size := by rw [k2]; exact hx.size, zk := by rw [k1]; exact hx.zk, zs := by rw [k3]; exact hx.zs,
         pk := fun s hs => by
          rcases hmem s hs with h | ⟨t, ht, _, _, hkey⟩
          ·exact hx.pk s h
          ·have := hx.pk t ht; unfold SmallS at this ⊢; rw [hkey]; exact this }
theorem pdol_does {w0 : World} (hva : ValAny w0) (hD : DecAny w0) {x : Cp} (hx : Snd6 x) (hxv : x.v.size ≤ 300) : ∀ (cs : List Cp) (v z : V), (∀ c ∈ cs, Kin x c) → (v.size + 400) * 2 ^ cs.length ≤ 100000 → PDoL v cs z → DoesL w0 v cs z ∧ z.size ≤ 100000
 | [], v, z, _, hz, h => by
  have h : z = v := h
  subst h
  have hz : (z.size + 400) * 1 ≤ 100000 := hz
  exact ⟨DoesL.nil _, by omega⟩
 | c :: cs, v, z, hk, hz, ⟨y, h1, h2⟩ => by
  have hkc := hk c List.mem_cons_self
  rw [List.length_cons, Nat.pow_succ, Nat.mul_comm _ 2, ← Nat.mul_assoc] at hz
  have hp : 1 ≤ 2 ^ cs.length := Nat.one_le_two_pow
  have hq : (v.size + 400) * 2 ≤ 100000 := Nat.le_trans (by simpa using Nat.mul_le_mul_left ((v.size + 400) * 2) hp) hz
  have hv : v.size ≤ 100000 := by clear hz hp; omega
  obtain ⟨g1, g2⟩ := pdo_does hva hD (snd6_kin hx hkc h1) hv (by rw [hkc.v]; exact hxv) h1
  have hr := Nat.mul_le_mul_right (2 ^ cs.length) (show y.size + 400 ≤ (v.size + 400) * 2 from by clear hz hp hq; omega)
  obtain ⟨g3, g4⟩ := pdol_does hva hD hx hxv cs y z (fun c hc => hk c (List.mem_cons_of_mem _ hc)) (Nat.le_trans hr hz) h2
  exact ⟨DoesL.cons g1 g3, g4⟩
theorem bys_text (l : List UInt8) : bys (textOf l) = l := by show (textOf l).data.toList = l; unfold textOf; rfl
theorem text_size (l : List UInt8) : (textOf l).size = l.length := by rw [← bys_len, bys_text]
theorem getV_keys : ∀ (p : List St) (v x : V), SV v → getV v p = some x → ∀ s ∈ p, StOk s → badS s = false ∧ SmallS s
 | [], _, _, _, _, s, hs, _ => by cases hs
 | t :: p, v, x, hv, h, s, hs, hst => by
  cases e : stepV v t with
  | none => simp only [getV, e] at h; cases h
  | some loc =>
   obtain ⟨y, hy⟩ := stepV_child e
   rw [getV_cons e hy] at h
   rcases List.mem_cons.1 hs with rfl | hs
   ·rcases hst with ⟨hl, hk, hi⟩ | ⟨hl, hi⟩
    ·refine ⟨?_, by unfold SmallS; rw [hk]; decide⟩
     unfold badS
     rw [hl, hk]
     simp only [if_true, Bool.or_eq_false_iff, decide_eq_false_iff_not]
     exact ⟨by rw [ByteArray.toList_eq]; rfl, by omega⟩
    ·rw [stepV_o hl] at e
     by_cases hc : v.kind = 5 ∧ fieldIs v.o s.key = true
     ·have hk := fieldIs_lt hc.2
      have h3 := hc.2
      rw [fieldIs_some hk rfl, keyB] at h3
      have hf := (SFs_iff v.o).1 ((SV_iff v).1 hv).2.2.1 _ (List.getElem_mem hk)
      have ha := ((SF_iff _).1 hf).1
      rw [h3] at ha
      refine ⟨?_, by unfold SmallS; have := ha.2; omega⟩
      unfold badS
      rw [hl, if_neg (by decide), valid_asc ha, hi]
      decide
     ·rw [if_neg hc] at e; cases e
   ·refine getV_keys p y x ?_ h s hs hst
    exact getV_sv [t] v y hv (by simp only [getV, e, hy])
theorem one_ok {v : V} {c : Cp} (hv : SV v) (hz : v.size ≤ 241) (h : OneOk v c) : Snd6 c ∧ c.v.size ≤ 300 ∧ (∃ z, PDo v c z) ∧ (∀ s ∈ c.path, StOk s) ∧ ∀ x, getV v c.path = some x → x.s.size ≤ 400 := by
 obtain ⟨x, hg, h5, hst, h⟩ := h
 have hsx := getV_sv _ _ _ hv hg
 have hsx' := (SV_iff x).1 hsx
 have hss : x.s.size ≤ 300 := by
  rcases hsx'.1 with h | h | h | h | h | h
  ·rw [h.2.2.1]; decide
  ·rw [h.2.2.1]; decide
  ·rw [h.2.1]; decide
  ·exact h.2.2.1.2
  ·rw [h.2.2.1]; decide
  ·rw [h.2.2.1]; decide
 have hp1 : c.path.length ≤ 16 ∧ c.path.any badS = false := ⟨by omega, by rw [List.any_eq_false]; intro s hs; rw [(getV_keys _ _ _ hv hg s hs (hst s hs)).1]; decide⟩
 have hpk : ∀ s ∈ c.path, SmallS s := fun s hs => (getV_keys _ _ _ hv hg s hs (hst s hs)).2
 have hlast : ∀ y, getV v c.path = some y → y.s.size ≤ 400 := fun y hy => by rw [hg] at hy; rw [← Option.some.inj hy]; omega
 have pdo : CanX x c → ∃ z, PDo v c z := fun hc => by
  obtain ⟨z, hz⟩ := putV_is hg (doX x c)
  exact ⟨z, x, hg, hc, hz⟩
 have hzs : SV ZV := ZV.sv
 have z1 : ZV.weight ≤ 20000 := by have := V.weigh ZV ZV.svd.2.2; have := ZV.size_ok; omega
 have z2 : c.path.length + 1 + ZV.deep ≤ 16 := by have := ZV.svd.2.1; omega
 rcases h with ⟨hk, n, _, h⟩ | ⟨hk, k, i, n, s, ht, h⟩ | ⟨hk, k, i, j, y, hl, hy, hyz, h⟩ | ⟨hk, k, key, y, hf, hy, hyz, h⟩
 ·generalize c.path = p at *
  subst h
  exact ⟨{ kind := (show 1 ≤ (1 : UInt8).toNat ∧ (1 : UInt8).toNat ≤ 9 from by decide), path := hp1, K := .inr rfl, I := .inr rfl, J := .inr rfl, N := .inl rfl, S := .inr rfl, V := .inr rfl, vkey := rfl, vs := rfl, i0 := Int.le_refl _, j0 := Int.le_refl _,
           tins := fun h => absurd (show (1 : UInt8).toNat = 8 from h) (by decide), tdel := fun h => absurd (show (1 : UInt8).toNat = 9 from h) (by decide), snd := SV.snd _ hzs, deep := z2, weight := z1, big := SV.big hzs, size := by show ZV.size ≤ 1000000; have := ZV.size_ok; omega,
           zk := by show (⟨#[]⟩ : ByteArray).size ≤ 1000000; decide, zs := by show (⟨#[]⟩ : ByteArray).size ≤ 1000000; decide, pk := hpk }, by show ZV.size ≤ 300; have := ZV.size_ok; omega, pdo (.inl ⟨hk, rfl⟩), hst, hlast⟩
 ·have hxa : Asc x.s := by
   rcases hsx'.1 with h | h | h | h | h | h <;> first | exact h.2.2.1 | (rw [h.1] at hk; exact absurd hk (by decide))
  have hxb : AscB x.s := hxa.1
  generalize c.path = p at *
  rcases ht with ⟨rfl, ⟨q, rfl, hq⟩, rfl, l, hl, hl2, rfl⟩ | ⟨rfl, ⟨q, m, rfl, hq, rfl, hm, hqm⟩, rfl⟩
  ·subst h
   have ha : AscB (textOf (120 :: l)) := by
    intro b hb
    rw [bys_text] at hb
    rcases List.mem_cons.1 hb with rfl | hb
    ·decide
    ·exact hl2 b hb
   have hts : (textOf (120 :: l)).size ≤ 41 := by rw [text_size, List.length_cons]; omega
   exact ⟨{ kind := (show 1 ≤ (8 : UInt8).toNat ∧ (8 : UInt8).toNat ≤ 9 from by decide), path := hp1, K := .inr rfl, I := .inl rfl, J := .inr rfl, N := .inr rfl, S := .inl rfl, V := .inr rfl, vkey := rfl, vs := valid_asc (show Asc (textOf (120 :: l)) from ⟨ha, by omega⟩), i0 := Int.natCast_nonneg _, j0 := Int.le_refl _,
            tins := fun _ => by show (textOf (120 :: l)).data.toList.isEmpty = false; rw [show (textOf (120 :: l)).data.toList = 120 :: l from bys_text _]; rfl, tdel := fun h => absurd (show (8 : UInt8).toNat = 9 from h) (by decide), snd := SV.snd _ hzs, deep := z2, weight := z1, big := SV.big hzs, size := by show ZV.size ≤ 1000000; have := ZV.size_ok; omega,
            zk := by show (⟨#[]⟩ : ByteArray).size ≤ 1000000; decide, zs := by show (textOf (120 :: l)).size ≤ 1000000; omega, pk := hpk }, by show ZV.size ≤ 300; have := ZV.size_ok; omega,
       pdo (.inr (.inl ⟨hk, hxb.asc (by omega), .inl ⟨rfl, q, rfl, hq⟩, ha, by show (textOf (120 :: l)).size ≤ 100; omega⟩)), hst, hlast⟩
  ·subst h
   exact ⟨{ kind := (show 1 ≤ (9 : UInt8).toNat ∧ (9 : UInt8).toNat ≤ 9 from by decide), path := hp1, K := .inr rfl, I := .inl rfl, J := .inr rfl, N := .inl rfl, S := .inr rfl, V := .inr rfl, vkey := rfl, vs := rfl, i0 := Int.natCast_nonneg _, j0 := Int.le_refl _,
            tins := fun h => absurd (show (9 : UInt8).toNat = 8 from h) (by decide), tdel := fun _ => by show 1 ≤ (m : Int); omega, snd := SV.snd _ hzs, deep := z2, weight := z1, big := SV.big hzs, size := by show ZV.size ≤ 1000000; have := ZV.size_ok; omega,
            zk := by show (⟨#[]⟩ : ByteArray).size ≤ 1000000; decide, zs := by show (⟨#[]⟩ : ByteArray).size ≤ 1000000; decide, pk := hpk }, by show ZV.size ≤ 300; have := ZV.size_ok; omega,
       pdo (.inr (.inl ⟨hk, hxb.asc (by omega), .inr ⟨rfl, q, m, rfl, rfl, hm, hqm⟩, fun b hb => (by cases hb), by show (⟨#[]⟩ : ByteArray).size ≤ 100; decide⟩)), hst, hlast⟩
 ·have y1 : y.weight ≤ 20000 := by have := V.weigh y hy.2.2; omega
  have y2 : c.path.length + 1 + y.deep ≤ 16 := by have := hy.2.1; omega
  have hck : checkL x.l.length k i j = 0 := by
   obtain ⟨q, rfl, ⟨rfl, hq, rfl⟩ | ⟨rfl, hq, rfl, _⟩ | ⟨rfl, hq, rfl⟩ | ⟨rfl, hq, _, r, rfl, hr⟩⟩ := hl
   ·exact check_of (.inl ⟨rfl, by omega, by omega⟩)
   ·exact check_of (.inr (.inl ⟨rfl, by omega, by omega⟩))
   ·exact check_of (.inr (.inr (.inl ⟨rfl, by omega, by omega⟩)))
   ·exact check_of (.inr (.inr (.inr ⟨rfl, by omega, by omega, by omega, by omega⟩)))
  generalize c.path = p at *
  subst h
  have base : ∀ {P : Prop}, (P → (Snd6 ⟨k, p, ⟨#[]⟩, i, j, 0, y, ⟨#[]⟩⟩)) → P → Snd6 ⟨k, p, ⟨#[]⟩, i, j, 0, y, ⟨#[]⟩⟩ := fun f h => f h
  refine ⟨?_, by show y.size ≤ 300; omega, pdo (.inr (.inr (.inl ⟨hk, hck⟩))), hst, hlast⟩
  obtain ⟨q, rfl, ⟨rfl, hq, rfl⟩ | ⟨rfl, hq, rfl, rfl⟩ | ⟨rfl, hq, rfl⟩ | ⟨rfl, hq, rfl, r, rfl, hr⟩⟩ := hl
  ·exact { kind := (show 1 ≤ (4 : UInt8).toNat ∧ (4 : UInt8).toNat ≤ 9 from by decide), path := hp1, K := .inr rfl, I := .inl rfl, J := .inr rfl, N := .inr rfl, S := .inr rfl, V := .inl rfl, vkey := rfl, vs := rfl, i0 := Int.natCast_nonneg _, j0 := Int.le_refl _,
           tins := fun h => absurd (show (4 : UInt8).toNat = 8 from h) (by decide), tdel := fun h => absurd (show (4 : UInt8).toNat = 9 from h) (by decide), snd := SV.snd _ hy.1, deep := y2, weight := y1, big := SV.big hy.1, size := by show y.size ≤ 1000000; omega,
           zk := by show (⟨#[]⟩ : ByteArray).size ≤ 1000000; decide, zs := by show (⟨#[]⟩ : ByteArray).size ≤ 1000000; decide, pk := hpk }
  ·exact { kind := (show 1 ≤ (5 : UInt8).toNat ∧ (5 : UInt8).toNat ≤ 9 from by decide), path := hp1, K := .inr rfl, I := .inl rfl, J := .inr rfl, N := .inr rfl, S := .inr rfl, V := .inr rfl, vkey := rfl, vs := rfl, i0 := Int.natCast_nonneg _, j0 := Int.le_refl _,
           tins := fun h => absurd (show (5 : UInt8).toNat = 8 from h) (by decide), tdel := fun h => absurd (show (5 : UInt8).toNat = 9 from h) (by decide), snd := SV.snd _ hy.1, deep := y2, weight := y1, big := SV.big hy.1, size := by show ZV.size ≤ 1000000; omega,
           zk := by show (⟨#[]⟩ : ByteArray).size ≤ 1000000; decide, zs := by show (⟨#[]⟩ : ByteArray).size ≤ 1000000; decide, pk := hpk }
  ·exact { kind := (show 1 ≤ (6 : UInt8).toNat ∧ (6 : UInt8).toNat ≤ 9 from by decide), path := hp1, K := .inr rfl, I := .inl rfl, J := .inr rfl, N := .inr rfl, S := .inr rfl, V := .inl rfl, vkey := rfl, vs := rfl, i0 := Int.natCast_nonneg _, j0 := Int.le_refl _,
           tins := fun h => absurd (show (6 : UInt8).toNat = 8 from h) (by decide), tdel := fun h => absurd (show (6 : UInt8).toNat = 9 from h) (by decide), snd := SV.snd _ hy.1, deep := y2, weight := y1, big := SV.big hy.1, size := by show y.size ≤ 1000000; omega,
           zk := by show (⟨#[]⟩ : ByteArray).size ≤ 1000000; decide, zs := by show (⟨#[]⟩ : ByteArray).size ≤ 1000000; decide, pk := hpk }
  ·exact { kind := (show 1 ≤ (7 : UInt8).toNat ∧ (7 : UInt8).toNat ≤ 9 from by decide), path := hp1, K := .inr rfl, I := .inl rfl, J := .inl rfl, N := .inr rfl, S := .inr rfl, V := .inr rfl, vkey := rfl, vs := rfl, i0 := Int.natCast_nonneg _, j0 := Int.natCast_nonneg _,
           tins := fun h => absurd (show (7 : UInt8).toNat = 8 from h) (by decide), tdel := fun h => absurd (show (7 : UInt8).toNat = 9 from h) (by decide), snd := SV.snd _ hy.1, deep := y2, weight := y1, big := SV.big hy.1, size := by show ZV.size ≤ 1000000; omega,
           zk := by show (⟨#[]⟩ : ByteArray).size ≤ 1000000; decide, zs := by show (⟨#[]⟩ : ByteArray).size ≤ 1000000; decide, pk := hpk }
 ·have y1 : y.weight ≤ 20000 := by have := V.weigh y hy.2.2; omega
  have y2 : c.path.length + 1 + y.deep ≤ 16 := by have := hy.2.1; omega
  generalize c.path = p at *
  subst h
  obtain ⟨hkey, hf⟩ := hf
  refine ⟨?_, by show y.size ≤ 300; omega, pdo (.inr (.inr (.inr ⟨hk, hsx'.2.2.2, hf.imp id fun h => ⟨h.1, h.2.1⟩⟩))), hst, hlast⟩
  rcases hf with rfl | ⟨rfl, _, rfl⟩
  ·exact { kind := (show 1 ≤ (2 : UInt8).toNat ∧ (2 : UInt8).toNat ≤ 9 from by decide), path := hp1, K := .inl rfl, I := .inr rfl, J := .inr rfl, N := .inr rfl, S := .inr rfl, V := .inl rfl, vkey := valid_asc hkey, vs := rfl, i0 := Int.le_refl _, j0 := Int.le_refl _,
           tins := fun h => absurd (show (2 : UInt8).toNat = 8 from h) (by decide), tdel := fun h => absurd (show (2 : UInt8).toNat = 9 from h) (by decide), snd := SV.snd _ hy.1, deep := y2, weight := y1, big := SV.big hy.1, size := by show y.size ≤ 1000000; omega,
           zk := by show key.size ≤ 1000000; have := hkey.2; omega, zs := by show (⟨#[]⟩ : ByteArray).size ≤ 1000000; decide, pk := hpk }
  ·exact { kind := (show 1 ≤ (3 : UInt8).toNat ∧ (3 : UInt8).toNat ≤ 9 from by decide), path := hp1, K := .inl rfl, I := .inr rfl, J := .inr rfl, N := .inr rfl, S := .inr rfl, V := .inr rfl, vkey := valid_asc hkey, vs := rfl, i0 := Int.le_refl _, j0 := Int.le_refl _,
           tins := fun h => absurd (show (3 : UInt8).toNat = 8 from h) (by decide), tdel := fun h => absurd (show (3 : UInt8).toNat = 9 from h) (by decide), snd := SV.snd _ hy.1, deep := y2, weight := y1, big := SV.big hy.1, size := by show ZV.size ≤ 1000000; omega,
           zk := by show key.size ≤ 1000000; have := hkey.2; omega, zs := by show (⟨#[]⟩ : ByteArray).size ≤ 1000000; decide, pk := hpk }
theorem turnC_len (b : Bool) (x y : Cp) (left : Bool) : (turnC b x y left).length ≤ 2 := by
 unfold turnC
 split
 ·split
  ·split <;> simp
  ·unfold besL
   split
   ·simp
   ·split
    ·rw [List.length_map]; cases turnL x.kind x.i x.j y.kind y.i y.j left <;> simp
    ·split
     ·rw [List.length_map]; exact tturn_len _ _ _ _ _ _ _ _
     ·split <;> simp
 ·simp
theorem meets_all {w0 : World} (hva : ValAny w0) (hD : DecAny w0) {v : V} (hv : SV v) (hz : v.size ≤ 241) {X Y : Cp} (hX : OneOk v X) (hY : OneOk v Y) (left b1 b2 : Bool) (hb1 : b1 = true ↔ X.path <+: Y.path) (hb2 : b2 = true ↔ Y.path <+: X.path) :
  ∃ z, DoesL w0 v ([X] ++ turnC b1 Y X (!left)) z ∧ DoesL w0 v ([Y] ++ turnC b2 X Y left) z ∧ z.size ≤ 100000 := by
 obtain ⟨sX, vX, ⟨z1, pX⟩, oX, lX⟩ := one_ok hv hz hX
 obtain ⟨sY, vY, ⟨z2, pY⟩, oY, _⟩ := one_ok hv hz hY
 obtain ⟨z, q1, q2⟩ := meet_plain v z1 z2 X Y left b1 b2 hb1 hb2 pX pY oX oY lX
 obtain ⟨d1, g1⟩ := pdo_does hva hD sX (by omega) vX pX
 obtain ⟨d2, g2⟩ := pdo_does hva hD sY (by omega) vY pY
 have hpow : ∀ {n k : Nat}, n ≤ 1000 → k ≤ 2 → (n + 400) * 2 ^ k ≤ 100000 := by
  intro n k h1 h2
  have : k = 0 ∨ k = 1 ∨ k = 2 := by omega
  rcases this with rfl | rfl | rfl <;> omega
 obtain ⟨e1, e2⟩ := pdol_does hva hD sY vY _ z1 z (fun c hc => turn_kin hc) (hpow (by omega) (turnC_len _ _ _ _)) q1
 obtain ⟨e3, _⟩ := pdol_does hva hD sX vX _ z2 z (fun c hc => turn_kin hc) (hpow (by omega) (turnC_len _ _ _ _)) q2
 exact ⟨z, DoesL.cons d1 e1, DoesL.cons d2 e3, e2⟩
end Go.Proofs.YtioplgfopillnaaDoor
