/- RefGetN, TurnE, TurnN, Open, OpenEl, OpenX, OpTok, TurnO, GrowIn, Within, VStr, ValWeight: laid together. -/
import Derived.Test.YtioplgfopillnaaDoorTiB12
import Derived.Test.YtioplgfopillnaaDoorTiB18
import Derived.Test.YtioplgfopillnaaDoorTiB1
import Derived.OpenShut
import Derived.ProofKit
import Derived.ChangeOld
import Derived.Deep.Slices
import Derived.Deep.Fields
import Derived.ChangeArms
import Derived.SizedLaws
import Derived.Test.YtioplgfopillnaaDoorTiB2
import Derived.Test.YtioplgfopillnaaDoorTiB4
import Derived.OrdersIn
import Derived.RangeFuncNested
import Derived.RangeFuncBound
import Derived.RangeFuncCalls
import Derived.RangeFuncLeaves
import Derived.RangeFuncFrom
import Derived.Test.YtioplgfopillnaaDoorTiB5
import Derived.Shelf.Abstract
import Derived.Shelf.RegionOpen
import Derived.WalkKit
import Derived.OwnWalkIn
import Derived.TacticsInMore
import Derived.LoopNIn
import Derived.LoopIn
import Derived.Test.YtioplgfopillnaaDoorTiB7
/- The reference's Get: what it answers is new memory. -/
set_option linter.unusedSimpArgs false
set_option linter.unusedVariables false
namespace Go.Proofs.YtioplgfopillnaaDoor
open Go.RowKit
set_option linter.unusedVariables false

def RGetN (v : V) (p : List St) (w : World) (e : Ending) (w' : World) : Prop := (match getV v p with
  | none => e = .returned (.tuple #[ZVAL, .int .i64 30])
  | some y => ∃ u, e = .returned (.tuple #[u, .int .i64 0]) ∧ VAt w' (fun q => w.heap.size ≤ q) u y) ∧ Ext w w'
set_option maxHeartbeats 3200000 in
theorem rget_new (w : World) (u pv : Value) (v : V) (p : List St) (S S' : BS) (hu : VAt w S u v) (hp : Sl ESt w S' pv p) (hsz : v.size ≤ 1000000) :
    Calls Tryd.prog 41 #[u, pv] w (RGetN v p w) := by
  obtain ⟨lv, ov, rfl, hl, ho⟩ := hu.cut
  obtain ⟨A, c, rfl, _, _⟩ := hl.shape
  obtain ⟨A', c', rfl, _, _⟩ := ho.shape
  obtain ⟨Ap, cp, rfl, hpl, hpm⟩ := hp.shape
  unfold maxLen at hpm
  obtain ⟨w1, hw1⟩ : ∃ w1, w1 = w.alloc (.cells #[U8 v.kind, .int .i64 v.n, .string v.s, .slice A v.l.length c, .slice A' v.o.length c'] TVAL) := ⟨_, rfl⟩
  obtain ⟨w3, hw3⟩ : ∃ w3, w3 = w1.alloc (.cells #[.int .u8 0, .int .i64 0, .string ⟨#[]⟩, .slice none 0 0, .slice none 0 0] TVAL) := ⟨_, rfl⟩
  have hz1 : w1.heap.size = w.heap.size + 1 := by rw [hw1]; simp
  have hE1 : Ext w w1 := by rw [hw1]; exact (Keep.refl _ _).alloc _
  have hE3 : Ext w1 w3 := by rw [hw3]; exact (Keep.refl _ _).alloc _
  have hb1 : Blk w3 w.heap.size TVAL #[U8 v.kind, .int .i64 v.n, .string v.s, .slice A v.l.length c, .slice A' v.o.length c'] := by
    have := Blk.new w TVAL #[U8 v.kind, .int .i64 v.n, .string v.s, .slice A v.l.length c, .slice A' v.o.length c']
    rw [← hw1] at this
    exact this.keep hE3 id
  have hb3 : Blk w3 (w.heap.size + 1) TVAL #[.int .u8 0, .int .i64 0, .string ⟨#[]⟩, .slice none 0 0, .slice none 0 0] := by
    have := Blk.new w1 TVAL #[.int .u8 0, .int .i64 0, .string ⟨#[]⟩, .slice none 0 0, .slice none 0 0]
    rwa [← hw3, hz1] at this
  have hE : Ext w w3 := hE1.ext hE3
  have HE := hid hE
  have HB1 := hid hb1
  have HB3 := hid hb3
  have HV := hid (show VAt w3 (fun q => q < w.heap.size) (.agg #[U8 v.kind, .int .i64 v.n, .string v.s, .slice A v.l.length c, .slice A' v.o.length c']) v from (VAt.ext ⟨_, _, rfl, hl, ho⟩ hE).more fun q _ h => h.2)
  have HP := hid ((hp.more ESt.ok (S' := fun q => q < w.heap.size) (fun q h _ => h)).ext ESt.ok hE)
  have HSZ := hid hsz
  have e3 : w3 = (w.alloc (.cells #[U8 v.kind, .int .i64 v.n, .string v.s, .slice A v.l.length c, .slice A' v.o.length c'] TVAL)).alloc (.cells #[.int .u8 0, .int .i64 0, .string ⟨#[]⟩, .slice none 0 0, .slice none 0 0] TVAL) := by rw [hw3, hw1]
  have hz3 : w.heap.size + 1 < w3.heap.size := hb3.lt
  clear hw1 hw3 hE1 hE3 hb1 hb3 hz1 hE hl ho hp hsz hu w1
  go_enter Tryd.func41, Tryd.ntmps41
  go_wp2_with fail
  rw [← e3]
  clear e3
  go_loopw [6, 7, 8, 9] (fun i _ _ _ wr => ∃ (j : Nat) (y : V) (lv ov : Value), i = .int .i64 j ∧ j ≤ p.length ∧ getV v (p.take j) = some y ∧ Blk wr w.heap.size TVAL #[U8 y.kind, .int .i64 y.n, .string y.s, lv, ov] ∧
    VAt wr (fun q => q < w.heap.size) (.agg #[U8 y.kind, .int .i64 y.n, .string y.s, lv, ov]) y ∧ Keep (· = w.heap.size) w3 wr) (fun i _ _ _ _ => p.length - (intOf i).toNat)
  case atStart => exact ⟨0, v, _, _, rfl, by omega, rfl, HB1.out, HV.out, Keep.refl _ _⟩
  case round =>
    obtain ⟨j, y, lv, ov, rfl, hj, hg, hb, hva, hkr⟩ := hrel
    obtain ⟨lv', ov', e, hxl, hxo⟩ := hva
    obtain ⟨e1, e2⟩ : lv = lv' ∧ ov = ov' := by simp at e; exact e
    subst e1 e2
    clear e
    obtain ⟨A2, c2, rfl, h2l, h2m⟩ := hxl.shape
    obtain ⟨A3, c3, rfl, h3l, h3m⟩ := hxo.shape
    have HY := hid (show VAt wr (fun q => q < w.heap.size) (.agg #[U8 y.kind, .int .i64 y.n, .string y.s, .slice A2 y.l.length c2, .slice A3 y.o.length c3]) y from ⟨_, _, rfl, hxl, hxo⟩)
    have HG := hid hg
    have HK := hid hkr
    have HBY := hid hb
    have hkz := hkr.size
    have HBR := hid (HB3.out.keep hkr (by omega))
    have HPr := hid (HP.out.keep ESt.ok hkr fun q hq e => by omega)
    obtain ⟨q0, q1, q2, q3, q4⟩ := blk5 hb
    clear hxl hxo hg hkr hb
    by_cases hlt : j < p.length
    · have hltX : (j : Int) < p.length := by omega
      obtain ⟨bp, op, cs, rfl, _, _, hrd, hcell⟩ := HPr.out.at_ ESt.ok hlt
      obtain ⟨z, idx, err, hcall, hst⟩ := step_o y p[j]
      have HN := hid (fun h => hst.none hlt HG.out h)
      have HSO := hid (fun h => hst.some hlt HG.out h)
      have HCALL := hid hcall
      generalize p[j] = s at *
      obtain rfl : cs = [.bool s.list, .int .i64 s.i, .string s.key] := hrd
      have s0 := hcell 0 _ rfl
      have s1 := hcell 1 _ rfl
      have s2 := hcell 2 _ rfl
      have hz : ESt.size = 3 := rfl
      simp only [hz, Nat.add_zero] at s0 s1 s2
      clear hz hcell hcall hst
      go_wp2_with fail
      refine H.wp_region_frees [8, 9] [1, 2, 3] [0, 4, 5, 6, 7, 8, 9, 10] [11] [12, 13]
        (H.specOf [(5, StepO (fun q => q < w.heap.size) z idx err), (10, BoxQ wr.heap.size)])
        (fun w' => Ext wr w') ?_ (H.stableC_ext _) (by kernel_rfl) (by intro k hk; simp at hk; rcases hk with rfl | rfl <;> rfl) (by kernel_rfl) (Keep.drew (Keep.refl _ _)) ?_
      · exact H.stable_cons (fun n m v w w' h he => h.ext he) (H.stable_cons (fun n m v w w' h he => h.ext he) H.stable_nil)
      iterate 3
        (try simp only [Act.put, List.setIfInBounds_toArray, List.set_cons_zero, List.set_cons_succ])
        refine H.pure_run rfl rfl ?_
        apply Exists.intro
        refine ⟨fun w' => ?_, ?_⟩
        · go_simp
          rfl
      refine H.pure_nil ?_
      iterate 2
        (try simp only [Act.put, List.setIfInBounds_toArray, List.set_cons_zero, List.set_cons_succ])
        refine H.growP_run rfl rfl rfl ?_
        apply Exists.intro
        refine ⟨fun w' hC hK => ?_, ?_⟩
        · have q0 := (hC.cell (lt_of_cell q0) id).trans q0
          have q1 := (hC.cell (lt_of_cell q1) id).trans q1
          have q2 := (hC.cell (lt_of_cell q2) id).trans q2
          have q3 := (hC.cell (lt_of_cell q3) id).trans q3
          have q4 := (hC.cell (lt_of_cell q4) id).trans q4
          have s0 := (hC.cell (lt_of_cell s0) id).trans s0
          have s1 := (hC.cell (lt_of_cell s1) id).trans s1
          have s2 := (hC.cell (lt_of_cell s2) id).trans s2
          go_simp
          rfl
      (try simp only [Act.put, List.setIfInBounds_toArray, List.set_cons_zero, List.set_cons_succ])
      refine H.growP_eff rfl rfl rfl (fun w' hC hK => ?_) (fun v5 nv5 mv5 hv5 => ?_)
      · have hcall := HCALL.out w' _ _ (HY.out.ext hC)
        unfold H.growAt
        go_simp
        exact H.grow_call hcall
      obtain ⟨_, _, Az1, cz1, Az2, cz2, rfl, _⟩ := hv5.head
      iterate 4
        (try simp only [Act.put, List.setIfInBounds_toArray, List.set_cons_zero, List.set_cons_succ])
        refine H.growP_run rfl rfl rfl ?_
        apply Exists.intro
        refine ⟨fun w' hC hK => ?_, ?_⟩
        · go_simp
          rfl
      (try simp only [Act.put, List.setIfInBounds_toArray, List.set_cons_zero, List.set_cons_succ])
      refine H.growP_eff rfl rfl rfl (fun w' hC hK => ?_) (fun v10 nv10 mv10 hv10 => ?_)
      · unfold H.growAt
        go_simp
        exact ⟨(Keep.refl _ _).alloc _, hC.size, rfl, by simp, Blk.new _ _ _⟩
      obtain ⟨_, _, hn, rfl, hnm, _⟩ := hv10.head
      refine H.growP_nil fun w7 hC hK => ?_
      have hbox : BoxQ wr.heap.size nv10 mv10 (.pointer (some ⟨nv10, 0, none⟩)) w7 := (hK.1 (10, _) List.mem_cons_self).1
      have hout : StepO (fun q => q < w.heap.size) z idx err nv5 mv5 (.tuple #[.agg #[U8 z.kind, .int .i64 z.n, .string z.s, .slice Az1 z.l.length cz1, .slice Az2 z.o.length cz2], .int .i64 idx, .int .i64 err]) w7 := (hK.1 (5, _) (List.mem_cons_of_mem _ List.mem_cons_self)).1
      obtain ⟨bq0, bq1, bq2, bq3, bq4⟩ := blk5 hbox.2.2.2
      have bf0 := hbox.2.2.2.frozen 0
      have bf1 := hbox.2.2.2.frozen 1
      have bf2 := hbox.2.2.2.frozen 2
      have bf3 := hbox.2.2.2.frozen 3
      have bf4 := hbox.2.2.2.frozen 4
      have HF := hid (StepO.fill (fun q (hq : q < w.heap.size) => by omega) hC hbox hout)
      clear hbox hout hK hn hnm q0 q1 q2 q3 q4 s0 s1 s2 hv5 hv10 hC
      change wpList _ _ _ (_ :: []) _ _
      (try simp only [Act.put, List.setIfInBounds_toArray, List.set_cons_zero, List.set_cons_succ])
      go_wp2_with fail
      refine H.Then.normal ?_
      iterate 2
        (try simp only [Act.put, List.setIfInBounds_toArray, List.set_cons_zero, List.set_cons_succ])
        refine H.pure_run rfl rfl ?_
        apply Exists.intro
        refine ⟨fun w' => ?_, ?_⟩
        · go_simp
          rfl
      refine H.pure_nil ?_
      refine NoPanic.normal ?_
      (try simp only [Act.put, List.setIfInBounds_toArray, List.set_cons_zero, List.set_cons_succ])
      obtain ⟨hE8, hB8, hV8⟩ := HF.out
      clear HF bq0 bq1 bq2 bq3 bq4 bf0 bf1 bf2 bf3 bf4
      change Exit.then _ _ Exit.normal _ (fillW w7 nv10 (U8 z.kind) (.int .i64 z.n) (.string z.s) (.slice Az1 z.l.length cz1) (.slice Az2 z.o.length cz2))
      generalize fillW w7 nv10 (U8 z.kind) (.int .i64 z.n) (.string z.s) (.slice Az1 z.l.length cz1) (.slice Az2 z.o.length cz2) = w8 at *
      have HE8 := hid (HK.out.trans hE8 fun q _ h => h.elim)
      have HB8 := hid hB8
      have HV8 := hid hV8
      have hby := HBY.out.keep hE8 id
      have hbr := HBR.out.keep hE8 id
      clear hE8 hB8 hV8
      by_cases herr : err = 0
      · have HD := hid (HSO.out herr)
        have herrX : (err != 0) = false := by simp [herr]
        clear herr
        obtain ⟨q0, q1, q2, q3, q4⟩ := blk5 hby
        have f0 := hby.frozen 0
        have f1 := hby.frozen 1
        have f2 := hby.frozen 2
        have f3 := hby.frozen 3
        have f4 := hby.frozen 4
        obtain ⟨z0, z1, z2, z3, z4⟩ := blk5 HB8.out
        have hk := set5_keep w8 w.heap.size 0 (U8 z.kind) (.int .i64 z.n) (.string z.s) (.slice Az1 z.l.length cz1) (.slice Az2 z.o.length cz2)
        have HR := hid (And.intro (show Blk (fillW w8 w.heap.size (U8 z.kind) (.int .i64 z.n) (.string z.s) (.slice Az1 z.l.length cz1) (.slice Az2 z.o.length cz2)) w.heap.size TVAL #[U8 z.kind, .int .i64 z.n, .string z.s, .slice Az1 z.l.length cz1, .slice Az2 z.o.length cz2] from set5_to hby rfl _ _ _ _ _)
          (And.intro (show VAt (fillW w8 w.heap.size (U8 z.kind) (.int .i64 z.n) (.string z.s) (.slice Az1 z.l.length cz1) (.slice Az2 z.o.length cz2)) (fun q => q < w.heap.size) (.agg #[U8 z.kind, .int .i64 z.n, .string z.s, .slice Az1 z.l.length cz1, .slice Az2 z.o.length cz2]) z from HV8.out.keep hk fun q hq e => by omega)
            (show Keep (· = w.heap.size) w3 (fillW w8 w.heap.size (U8 z.kind) (.int .i64 z.n) (.string z.s) (.slice Az1 z.l.length cz1) (.slice Az2 z.o.length cz2)) from HE8.out.trans hk fun q _ h => h)))
        clear hby hbr hk
        go_wp2
        go_roundw
        case rel => exact ⟨j + 1, z, _, _, by go_num, by omega, HD.out, HR.out⟩
        case measure => simp [intOf]; omega
      · have HD := hid (HN.out herr)
        have herrX : (err != 0) = true := by simpa using herr
        clear herr
        obtain ⟨r0, r1, r2, r3, r4⟩ := blk5 hbr
        have f0 := hbr.frozen 0
        have f1 := hbr.frozen 1
        have f2 := hbr.frozen 2
        have f3 := hbr.frozen 3
        have f4 := hbr.frozen 4
        have HT := hid (ret5 (HE.out.trans HE8.out fun q hq e => by omega) (by omega) hbr (.int .u8 0) (.int .i64 0) (.string ⟨#[]⟩) (.slice none 0 0) (.slice none 0 0))
        clear hby hbr
        go_wp2
        obtain ⟨hE5, t0, t1, t2, t3, t4⟩ := HT.out
        change bodyPost _ _ _ _ _ (fillW w8 (w.heap.size + 1) (.int .u8 0) (.int .i64 0) (.string ⟨#[]⟩) (.slice none 0 0) (.slice none 0 0))
        generalize fillW w8 (w.heap.size + 1) (.int .u8 0) (.int .i64 0) (.string ⟨#[]⟩) (.slice none 0 0) (.slice none 0 0) = w9 at *
        refine bodyPost_ret (v := .tuple #[ZVAL, .int .i64 err]) (by simp [results, Tryd.results41, go_sem, t0, t1, t2, t3, t4]) rfl ?_
        obtain ⟨hd1, hd2⟩ := HD.out
        unfold RGetN
        rw [hd1, hd2]
        exact ⟨rfl, hE5⟩
    · obtain rfl : j = p.length := by omega
      have HGF := hid (show getV v p = some y from by have := HG.out; rwa [List.take_length] at this)
      have hys : y.size ≤ 1000000 := Nat.le_trans (getV_size _ _ _ HGF.out) HSZ.out
      have HCP := hid (rcopy_any _ y (Nat.le_refl _) hys _ _ wr HY.out)
      have HEr := hid (HE.out.trans HK.out fun q hq e => by omega)
      clear HG
      go_wp2_with fail
      refine HCP.out.mono ?_
      rintro e w4 h
      obtain ⟨u, rfl, hva, hE4⟩ := h.at_
      obtain ⟨B1, e1, B2, e2, rfl, hva⟩ := hva.form
      have hbr := HBR.out.keep hE4 id
      obtain ⟨r0, r1, r2, r3, r4⟩ := blk5 hbr
      have f0 := hbr.frozen 0
      have f1 := hbr.frozen 1
      have f2 := hbr.frozen 2
      have f3 := hbr.frozen 3
      have f4 := hbr.frozen 4
      have hk := set5_keep w4 (w.heap.size + 1) 0 (U8 y.kind) (.int .i64 y.n) (.string y.s) (.slice B1 y.l.length e1) (.slice B2 y.o.length e2)
      have HT := hid (ret5 (HEr.out.ext hE4) (by omega) hbr (U8 y.kind) (.int .i64 y.n) (.string y.s) (.slice B1 y.l.length e1) (.slice B2 y.o.length e2))
      have HVF := hid (show VAt (fillW w4 (w.heap.size + 1) (U8 y.kind) (.int .i64 y.n) (.string y.s) (.slice B1 y.l.length e1) (.slice B2 y.o.length e2)) (fun q => w.heap.size ≤ q) (.agg #[U8 y.kind, .int .i64 y.n, .string y.s, .slice B1 y.l.length e1, .slice B2 y.o.length e2]) y from (hva.keep hk fun q hq e => by omega).more fun q _ h => by omega)
      clear hva hE4 hbr hk h q0 q1 q2 q3 q4
      go_wp2
      obtain ⟨hE5, t0, t1, t2, t3, t4⟩ := HT.out
      change bodyPost _ _ _ _ _ (fillW w4 (w.heap.size + 1) (U8 y.kind) (.int .i64 y.n) (.string y.s) (.slice B1 y.l.length e1) (.slice B2 y.o.length e2))
      generalize fillW w4 (w.heap.size + 1) (U8 y.kind) (.int .i64 y.n) (.string y.s) (.slice B1 y.l.length e1) (.slice B2 y.o.length e2) = w9 at *
      refine bodyPost_ret (v := .tuple #[.agg #[U8 y.kind, .int .i64 y.n, .string y.s, .slice B1 y.l.length e1, .slice B2 y.o.length e2], .int .i64 0]) (by simp [results, Tryd.results41, go_sem, t0, t1, t2, t3, t4]) rfl ?_
      unfold RGetN
      rw [HGF.out]
      exact ⟨⟨_, rfl, HVF.out⟩, hE5⟩
end Go.Proofs.YtioplgfopillnaaDoor

/- law06: One. -/
set_option linter.unusedSimpArgs false
set_option linter.unusedVariables false
namespace Go.Proofs.YtioplgfopillnaaDoor
open Go.RowKit
set_option linter.unusedVariables false

/-- A component that may be done to a value. -/
def OneOk (v : V) (c : Cp) : Prop := ∃ x, getV v c.path = some x ∧ c.path.length ≤ 5 ∧ (∀ s ∈ c.path, StOk s) ∧
  ((x.kind = 2 ∧ ∃ n, (Lit.int .i64 n).wf = true ∧ c = ⟨1, c.path, ⟨#[]⟩, 0, 0, n, ZV, ⟨#[]⟩⟩) ∨
   (x.kind = 3 ∧ ∃ k i n s, TextOk x.s.size k i n s ∧ c = ⟨k, c.path, ⟨#[]⟩, i, 0, n, ZV, s⟩) ∨
   (x.kind = 4 ∧ ∃ k i j y, ListOk x.l.length k i j y ∧ SV y ∧ y.size ≤ 241 ∧ c = ⟨k, c.path, ⟨#[]⟩, i, j, 0, y, ⟨#[]⟩⟩) ∨
   (x.kind = 5 ∧ ∃ k key y, FieldOk x k key y ∧ SV y ∧ y.size ≤ 241 ∧ c = ⟨k, c.path, key, 0, 0, 0, y, ⟨#[]⟩⟩))
def Is12 (u : Value) : Prop := ∃ (k : Int) (A : Option Addr) (m c : Nat) (key : ByteArray) (i j n vk vn : Int) (vs : ByteArray) (B : Option Addr) (p q : Nat) (D : Option Addr) (r s : Nat) (t : ByteArray), u = .agg #[.int .u8 k, .slice A m c, .string key, .int .i64 i, .int .i64 j, .int .i64 n, .int .u8 vk, .int .i64 vn, .string vs, .slice B p q, .slice D r s, .string t]
def One6Is (v : V) (w : World) (e : Ending) (w' : World) : Prop := ∃ u n, e = .returned (.tuple #[u, .int .i64 n]) ∧ ((n = 0 ∧ Is12 u) ∨ (n = 1 ∧ ∃ c, CAt w' (fun q => w.heap.size ≤ q) u c ∧ OneOk v c)) ∧ Ext w w'
end Go.Proofs.YtioplgfopillnaaDoor

/- The walk of TurnApart. -/
set_option linter.unusedSimpArgs false
set_option linter.unusedVariables false
namespace Go.Proofs.YtioplgfopillnaaDoor
open Go.RowKit
set_option linter.unusedVariables false

theorem One6Is.form {v : V} {w w' : World} {e : Ending} (h : One6Is v w e w') : ∃ (k1 : Int) (A1 : Option Addr) (m1 c1 : Nat) (key1 : ByteArray) (i1 j1 n1 vk1 vn1 : Int) (vs1 : ByteArray) (B1 : Option Addr) (p1 q1 : Nat) (D1 : Option Addr) (r1 s1 : Nat) (t1 : ByteArray) (o : Int), e = .returned (.tuple #[.agg #[.int .u8 k1, .slice A1 m1 c1, .string key1, .int .i64 i1, .int .i64 j1, .int .i64 n1, .int .u8 vk1, .int .i64 vn1, .string vs1, .slice B1 p1 q1, .slice D1 r1 s1, .string t1], .int .i64 o]) ∧ (o = 0 ∨ (o = 1 ∧ ∃ c, CAt w' (fun q => w.heap.size ≤ q) (.agg #[.int .u8 k1, .slice A1 m1 c1, .string key1, .int .i64 i1, .int .i64 j1, .int .i64 n1, .int .u8 vk1, .int .i64 vn1, .string vs1, .slice B1 p1 q1, .slice D1 r1 s1, .string t1]) c ∧ OneOk v c)) ∧ Ext w w' := by
  obtain ⟨u, n, rfl, ⟨rfl, k1, A1, m1, c1, key1, i1, j1, n1, vk1, vn1, vs1, B1, p1, q1, D1, r1, s1, t1, rfl⟩ | ⟨rfl, c, hc, ho⟩, hE⟩ := h
  · exact ⟨_, _, _, _, _, _, _, _, _, _, _, _, _, _, _, _, _, _, 0, rfl, .inl rfl, hE⟩
  · obtain ⟨pv, lv, ov, rfl, h1, h2, h3⟩ := hc
    obtain ⟨A, cp, rfl, _⟩ := h1.shape
    obtain ⟨B, cl, rfl, _⟩ := h2.shape
    obtain ⟨D, co, rfl, _⟩ := h3.shape
    exact ⟨_, _, _, _, _, _, _, _, _, _, _, _, _, _, _, _, _, _, 1, rfl, .inr ⟨rfl, c, ⟨_, _, _, rfl, h1, h2, h3⟩, ho⟩, hE⟩
abbrev Wf (a : Ac) : Prop := (Lit.int .i64 a.i).wf = true ∧ (Lit.int .i64 a.j).wf = true ∧ (Lit.int .i64 a.n).wf = true
end Go.Proofs.YtioplgfopillnaaDoor

/- From the readings of arguments to the words of the walks. -/
set_option linter.unusedSimpArgs false
set_option linter.unusedVariables false
namespace Go.Proofs.YtioplgfopillnaaDoor
open Go.ChangeShapes Go.WideShapes Go.ChangeAt Go.RowKit

section
variable {H : Type} {enc : TypeId × Value → H} {P : Program} {W : World}

theorem add_cell {x : Addr} {i : Nat} (hx : x.spot = none) : x.add i = ⟨x.block, x.off + i, none⟩ := by
  cases x; simp at hx; subst hx
  unfold Addr.add
  split <;> simp_all

theorem spot_of_cell {x : Addr} {v : Value} (h : W.cell? x = some v) : x.spot = none := by
  unfold World.cell? at h
  split at h
  · split at h
    · cases h
    · rename_i hs; simpa using hs
  · cases h

theorem u8_of_wf {n : Int} (h : (Lit.int .u8 n).wf = true) : ∃ c : UInt8, n = (c.toNat : Int) := by
  have h1 : 0 ≤ n ∧ n ≤ 255 := by
    simp [Lit.wf, IntKind.has, IntKind.min, IntKind.max, IntKind.signed, IntKind.bits] at h
    omega
  refine ⟨UInt8.ofNat n.toNat, ?_⟩
  rw [UInt8.toNat_ofNat_of_lt' (by simp [UInt8.size]; omega)]
  omega

end
end Go.Proofs.YtioplgfopillnaaDoor

/- From the readings of arguments to slices of structs. -/
set_option linter.unusedSimpArgs false
set_option linter.unusedVariables false
namespace Go.Proofs.YtioplgfopillnaaDoor
open Go.ChangeShapes Go.WideShapes Go.ChangeAt Go.RowKit Go.Deep

/-- A row read one element after the other. -/
theorem cells_build {α : Type} {E : El α} (hE : E.Ok) {w : World} {S : BS} {b off : Nat} : ∀ (n : Nat), (∀ i, i < n → ∃ (x : α) (c0 : List Value), E.rd w S c0 x ∧ ∀ j u, c0[j]? = some u → w.cell? ⟨b, off + (i * E.size + j), none⟩ = some u) →
    ∃ (l : List α) (cs : List Value), l.length = n ∧ Cells E w S cs l ∧ ∀ k u, cs[k]? = some u → w.cell? ⟨b, off + k, none⟩ = some u
  | 0, _ => ⟨[], [], rfl, rfl, fun k u h => by simp at h⟩
  | n + 1, h => by
    obtain ⟨l, cs, hl, hc, hk⟩ := cells_build hE n fun i hi => h i (by omega)
    obtain ⟨x, c0, hx, h0⟩ := h n (by omega)
    refine ⟨l ++ [x], cs ++ c0, by simp [hl], hc.append (Cells.single hx), fun k u hu => ?_⟩
    have hcl := hc.len hE
    rcases Nat.lt_or_ge k cs.length with h1 | h1
    · rw [List.getElem?_append_left h1] at hu; exact hk k u hu
    · rw [List.getElem?_append_right h1] at hu
      have := h0 _ u hu
      rwa [show n * E.size + (k - cs.length) = k from by rw [hcl, hl] at h1 ⊢; omega] at this

section
variable {H : Type} {enc : TypeId × Value → H} {P : Program} {W : World}
end
end Go.Proofs.YtioplgfopillnaaDoor

/- Arguments of any shape, opened: kinds of elements, built of one another; what comes in is no longer than a process's memory. No program. -/
set_option linter.unusedSimpArgs false
set_option linter.unusedVariables false
namespace Go.Proofs.YtioplgfopillnaaDoor
open Go.ChangeShapes Go.WideShapes Go.ChangeAt Go.RowKit Go.Deep

/-! ### Kinds of elements -/
def EInt (k : IntKind) : El Int := { size := 1, rd := fun _ _ cs x => cs = [.int k x] }
theorem EInt.ok (k : IntKind) : (EInt k).Ok where
  pos := by show 0 < 1; decide
  len := fun h => by have h := h; subst h; rfl
  one := fun h u hu => by subst h; simp at hu; subst hu; rfl
  keep := fun h _ _ => h
  more := fun h _ => h
def EBool : El Bool := { size := 1, rd := fun _ _ cs x => cs = [.bool x] }
theorem EBool.ok : EBool.Ok where
  pos := by decide
  len := fun h => by subst h; rfl
  one := fun h u hu => by subst h; simp at hu; subst hu; rfl
  keep := fun h _ _ => h
  more := fun h _ => h
def EStr : El ByteArray := { size := 1, rd := fun _ _ cs x => cs = [.string x] }
theorem EStr.ok : EStr.Ok where
  pos := by decide
  len := fun h => by subst h; rfl
  one := fun h u hu => by subst h; simp at hu; subst hu; rfl
  keep := fun h _ _ => h
  more := fun h _ => h
def EPair {α β : Type} (E : El α) (F : El β) : El (α × β) := { size := E.size + F.size, rd := fun w S cs x => ∃ c1 c2, cs = c1 ++ c2 ∧ E.rd w S c1 x.1 ∧ F.rd w S c2 x.2 }
theorem EPair.ok {α β : Type} {E : El α} {F : El β} (hE : E.Ok) (hF : F.Ok) : (EPair E F).Ok where
  pos := by show 0 < E.size + F.size; have := hE.pos; omega
  len := fun ⟨c1, c2, h, h1, h2⟩ => by subst h; rw [List.length_append, hE.len h1, hF.len h2]; rfl
  one := fun ⟨c1, c2, h, h1, h2⟩ u hu => by
    subst h
    rcases List.mem_append.1 hu with hu | hu
    · exact hE.one h1 u hu
    · exact hF.one h2 u hu
  keep := fun ⟨c1, c2, h, h1, h2⟩ hk hF' => ⟨c1, c2, h, hE.keep h1 hk hF', hF.keep h2 hk hF'⟩
  more := fun ⟨c1, c2, h, h1, h2⟩ hS => ⟨c1, c2, h, hE.more h1 hS, hF.more h2 hS⟩

section
variable {H : Type} {enc : TypeId × Value → H} {P : Program} {W : World} {spare : Nat → Bool} {held : Bool}

/-- No part of it takes more bytes than a process has. -/
def Fits (P : Program) (t : TypeId) (d : DataW H) : Prop := ∀ n ∈ d.weights P t, n ≤ reachBytes
theorem weightsAll_mem {e : TypeId} {n : Nat} : ∀ {ds : List (DataW H)} {d : DataW H}, d ∈ ds → n ∈ d.weights P e → n ∈ DataW.weightsAll P e ds
  | d :: r, x, hx, hn => by
    rw [DataW.weightsAll]
    rcases List.mem_cons.1 hx with rfl | hx
    · exact List.mem_append_left _ hn
    · exact List.mem_append_right _ (weightsAll_mem hx hn)
theorem weightsEach_mem {n : Nat} : ∀ {ts : List TypeId} {ds : List (DataW H)} {i : Nat} {t : TypeId} {d : DataW H}, ts[i]? = some t → ds[i]? = some d → n ∈ d.weights P t → n ∈ DataW.weightsEach P ts ds
  | t :: ts, d :: ds, 0, t', d', ht, hd, hn => by
    simp at ht hd; subst ht hd
    rw [DataW.weightsEach]; exact List.mem_append_left _ hn
  | t :: ts, d :: ds, i + 1, t', d', ht, hd, hn => by
    rw [DataW.weightsEach]; exact List.mem_append_right _ (weightsEach_mem (by simpa using ht) (by simpa using hd) hn)
/-- .. of one of the arguments. -/
theorem Fits.of_all {ts : List TypeId} {ds : List (DataW H)} (h : (DataW.weightsEach P ts ds).all (· ≤ reachBytes) = true) {i : Nat} {t : TypeId} {d : DataW H} (ht : ts[i]? = some t) (hd : ds[i]? = some d) : Fits P t d := fun n hn => by
  have := List.all_eq_true.1 h n (weightsEach_mem ht hd hn)
  simpa using this

/-- Cells of type t read as a datum of kind E, of which Q is known. -/
structure Opens {α : Type} (E : El α) (enc : TypeId × Value → H) (P : Program) (W : World) (spare : Nat → Bool) (held : Bool) (t : TypeId) (Q : α → Prop) : Prop where
  size : P.cellsOf t = E.size
  op : ∀ (fuel : Nat) (cs : List Value) (y : DataW H × List MemPlace), DataW.trod enc P W 0 spare held fuel t cs = some y → Fits P t y.1 → ∃ x, E.rd W (fun k => k < W.heap.size) cs x ∧ Q x

theorem Opens.map {α β : Type} {E : El α} {F : El β} {t : TypeId} {Q : α → Prop} {R : β → Prop} (h : Opens E enc P W spare held t Q) (hs : F.size = E.size) (f : α → β) (hrd : ∀ w S cs x, E.rd w S cs x → F.rd w S cs (f x)) (hQ : ∀ x, Q x → R (f x)) : Opens F enc P W spare held t R :=
  ⟨h.size.trans hs.symm, fun fuel cs y hy hf => by obtain ⟨x, h1, h2⟩ := h.op fuel cs y hy hf; exact ⟨f x, hrd _ _ _ _ h1, hQ _ h2⟩⟩
theorem opens_int {t : TypeId} {k : IntKind} (ht : P.underlying t = some (.int k)) (hc : P.cellsOf t = 1) : Opens (EInt k) enc P W spare held t (fun x => (Lit.int k x).wf = true) :=
  ⟨hc, fun fuel cs y hy _ => by obtain ⟨n, h1, _, h3⟩ := DataW.trod_int ht hy; exact ⟨n, h1, h3⟩⟩
theorem opens_u8 {t : TypeId} (ht : P.underlying t = some (.int .u8)) (hc : P.cellsOf t = 1) : Opens EU8 enc P W spare held t (fun _ => True) :=
  ⟨hc, fun fuel cs y hy _ => by obtain ⟨n, h1, _, h3⟩ := DataW.trod_int ht hy; obtain ⟨c, rfl⟩ := u8_of_wf h3; exact ⟨c, h1, trivial⟩⟩
theorem opens_str {t : TypeId} (ht : P.underlying t = some .string) (hc : P.cellsOf t = 1) : Opens EStr enc P W spare held t (fun s => s.size ≤ reachBytes) :=
  ⟨hc, fun fuel cs y hy hf => by
    obtain ⟨s, h1, h2, _⟩ := DataW.trod_string ht hy
    subst h2
    exact ⟨s, h1, hf s.size (by simp [DataW.weights])⟩⟩
/-- A slice's value, its elements in sight. -/
theorem sl_opens {α : Type} {E : El α} (hE : E.Ok) {t e : TypeId} {Q : α → Prop} (ht : P.underlying t = some (.slice e)) (h : Opens E enc P W spare held e Q) {fuel : Nat} {v : Value} {y : DataW H × List MemPlace}
    (hy : DataW.trod enc P W 0 spare held fuel t [v] = some y) (hf : Fits P t y.1) : ∃ l : List α, Sl E W (fun k => k < W.heap.size) v l ∧ l.length * P.bytesOf e ≤ reachBytes ∧ ∀ x ∈ l, Q x := by
  rcases open_slice ht hy with ⟨h0, _⟩ | ⟨x, len, cap, m, n, D, Pl, hcs, _, hl, hm, hmm, hd, hi⟩
  · obtain rfl : v = .slice none 0 0 := by simpa using h0
    exact ⟨[], Sl.nil _ _, by simp, by simp⟩
  · obtain rfl : v = .slice (some x) len cap := by simpa using hcs
    subst hd
    have hlen : len ≤ m := by rw [hmm]; split <;> omega
    have hpos := hE.pos
    have hC := h.size
    have hw : ∀ n', n' ∈ DataW.weights P t (DataW.slice ((List.range len).map D) ((List.range (m - len)).map fun j => D (len + j))) ↔ n' ∈ ((((List.range len).map D).length * P.bytesOf e + ((List.range (m - len)).map fun j => D (len + j)).length * P.bytesOf e) :: (DataW.weightsAll P e ((List.range len).map D) ++ DataW.weightsAll P e ((List.range (m - len)).map fun j => D (len + j)))) := fun n' => by
      rw [DataW.weights, ht]; simp [Nat.add_mul]
    have key : ∀ i, i < len → ∃ (z : α) (c0 : List Value), (E.rd W (fun k => k < W.heap.size) c0 z ∧ Q z) ∧ ∀ j, j < E.size → W.cell? (x.add (i * E.size + j)) = c0[j]? := fun i hil => by
      obtain ⟨cs', hc, ht'⟩ := hi i (by omega)
      rw [hC] at hc
      obtain ⟨_, hcl, hat⟩ := World.cells?_some hc
      obtain ⟨z, hz, hq⟩ := h.op n cs' _ ht' (fun n' hn' => hf n' ((hw n').2 (List.mem_cons_of_mem _ (List.mem_append_left _ (weightsAll_mem (List.mem_map.2 ⟨i, List.mem_range.2 hil, rfl⟩) hn')))))
      exact ⟨z, cs', ⟨hz, hq⟩, fun j hj => by rw [← add_add]; exact hat j hj⟩
    have hbytes : len * P.bytesOf e ≤ reachBytes := by
      have := hf _ ((hw _).2 List.mem_cons_self)
      simp at this
      exact Nat.le_trans (Nat.le_add_right _ _) this
    rcases Nat.eq_zero_or_pos len with h0 | h0
    · subst h0
      exact ⟨[], ⟨[], ⟨by simp, some x, cap, rfl, by simp, hm, fun h => by simp at h⟩, rfl⟩, by simp, by simp⟩
    · obtain ⟨y0, c0, ⟨hr0, _⟩, hc0⟩ := key 0 h0
      have hl0 := hE.len hr0
      have hcell0 : W.cell? (x.add (0 * E.size + 0)) = some (c0[0]'(by omega)) := by rw [hc0 0 hpos]; exact List.getElem?_eq_getElem _
      have hsp := spot_of_cell (by simpa [Addr.add] using hcell0)
      obtain ⟨b, off, sp⟩ := x
      simp at hsp
      subst hsp
      have hadd : ∀ k, (⟨b, off, none⟩ : Addr).add k = ⟨b, off + k, none⟩ := fun k => add_cell rfl
      have hlt := lt_of_cell (by rw [hadd] at hcell0; exact hcell0)
      let E' : El { z : α // Q z } := { size := E.size, rd := fun w S cs z => E.rd w S cs z.1 }
      have hE' : E'.Ok := ⟨hE.pos, fun h => hE.len h, fun h => hE.one h, fun h => hE.keep h, fun h => hE.more h⟩
      obtain ⟨l, cs, hll, hcc, hcell⟩ := cells_build (E := E') (w := W) (S := fun k => k < W.heap.size) (b := b) (off := off) hE' len fun i hi => by
        obtain ⟨z, c1, ⟨hr, hq⟩, hc⟩ := key i hi
        refine ⟨⟨z, hq⟩, c1, hr, fun j u hu => ?_⟩
        have hj : j < E.size := by have := hE.len hr; have := (List.getElem?_eq_some_iff.1 hu).1; omega
        have := hc j hj
        rw [hadd, hu] at this
        exact this
      have hcc2 : ∀ {cs : List Value} {l : List { z : α // Q z }}, Cells E' W (fun k => k < W.heap.size) cs l → Cells E W (fun k => k < W.heap.size) cs (l.map (·.1)) := by
        intro cs l
        induction l generalizing cs with
        | nil => exact fun h => h
        | cons z l ih => rintro ⟨c0, c1, e, h0, h1⟩; exact ⟨c0, c1, e, h0, ih h1⟩
      refine ⟨l.map (·.1), ⟨cs, ?_, hcc2 hcc⟩, by rw [List.length_map, hll]; exact hbytes, fun x hx => by obtain ⟨z, _, rfl⟩ := List.mem_map.1 hx; exact z.2⟩
      rw [List.length_map]
      exact ⟨hcc.len hE', some ⟨b, off, none⟩, cap, by rw [hll], by omega, hm, fun _ => ⟨b, off, rfl, hlt, hlt, fun j u hu => hcell j u hu⟩⟩
theorem opens_slice {α : Type} {E : El α} (hE : E.Ok) {t e : TypeId} {Q : α → Prop} (ht : P.underlying t = some (.slice e)) (hc : P.cellsOf t = 1) (h : Opens E enc P W spare held e Q) : Opens (ESl E) enc P W spare held t (fun l => l.length * P.bytesOf e ≤ reachBytes ∧ ∀ x ∈ l, Q x) :=
  ⟨hc, fun fuel cs y hy hf => by
    have hv : ∃ v, cs = [v] := by
      rcases open_slice ht hy with ⟨h0, _⟩ | ⟨x, len, cap, m, n, D, Pl, hcs, _⟩
      · exact ⟨_, h0⟩
      · exact ⟨_, hcs⟩
    obtain ⟨v, rfl⟩ := hv
    obtain ⟨l, h1, h2⟩ := sl_opens hE ht h hy hf
    exact ⟨l, ⟨v, rfl, h1⟩, h2⟩⟩

/-- The fields from some place on. -/
def FOp {α : Type} (E : El α) (enc : TypeId × Value → H) (P : Program) (W : World) (spare : Nat → Bool) (held : Bool) (fs : List Field) (off : Nat) (Q : α → Prop) : Prop :=
  ∀ (n : Nat) (cs : List Value) (ys : List (DataW H × List MemPlace)), cs.length = off + E.size → ys.length = fs.length →
    (∀ (i : Nat) (f : Field), fs[i]? = some f → DataW.trod enc P W 0 spare held n f.type ((cs.drop f.offset).take (P.cellsOf f.type)) = ys[i]?) → (∀ (i : Nat) (f : Field) y, fs[i]? = some f → ys[i]? = some y → Fits P f.type y.1) →
    ∃ x, E.rd W (fun k => k < W.heap.size) (cs.drop off) x ∧ Q x
theorem fop_one {α : Type} {E : El α} {f : Field} {off : Nat} {Q : α → Prop} (ho : f.offset = off) (h : Opens E enc P W spare held f.type Q) : FOp E enc P W spare held [f] off Q := by
  intro n cs ys hl hy ht hf
  obtain ⟨y, rfl⟩ : ∃ y, ys = [y] := by
    match ys, hy with
    | [y], _ => exact ⟨y, rfl⟩
  have := ht 0 f rfl
  rw [ho, h.size, List.take_of_length_le (by simp; omega)] at this
  exact h.op n _ y this (hf 0 f y rfl rfl)
theorem fop_cons {α β : Type} {E : El α} {F : El β} {f : Field} {fs : List Field} {off : Nat} {Q : α → Prop} {R : β → Prop} (ho : f.offset = off) (h : Opens E enc P W spare held f.type Q) (hr : FOp F enc P W spare held fs (off + E.size) R) :
    FOp (EPair E F) enc P W spare held (f :: fs) off (fun x => Q x.1 ∧ R x.2) := by
  intro n cs ys hl hy ht hf
  obtain ⟨y, zs, rfl⟩ : ∃ y zs, ys = y :: zs := by
    match ys, hy with
    | y :: zs, _ => exact ⟨y, zs, rfl⟩
  have hl' : cs.length = off + (E.size + F.size) := hl
  have h0 := ht 0 f rfl
  rw [ho, h.size] at h0
  obtain ⟨x1, r1, q1⟩ := h.op n _ y h0 (hf 0 f y rfl rfl)
  obtain ⟨x2, r2, q2⟩ := hr n cs zs (by omega) (by simpa using hy) (fun i g hg => by have := ht (i + 1) g (by simpa using hg); simpa using this) (fun i g z hg hz => hf (i + 1) g z (by simpa using hg) (by simpa using hz))
  refine ⟨(x1, x2), ⟨(cs.drop off).take E.size, cs.drop (off + E.size), ?_, r1, r2⟩, q1, q2⟩
  rw [← List.drop_drop, List.take_append_drop]
theorem opens_struct {α : Type} {E : El α} {t : TypeId} {fs : Array Field} {Q : α → Prop} (ht : P.underlying t = some (.struct fs)) (hc : P.cellsOf t = E.size) (h : FOp E enc P W spare held fs.toList 0 Q) : Opens E enc P W spare held t Q :=
  ⟨hc, fun fuel cs y hy hf => by
    obtain ⟨ys, n, _, hyd, hl, hyl, hfl⟩ := DataW.trod_struct ht hy
    subst hyd
    have hw : ∀ n', n' ∈ DataW.weights P t (DataW.agg (ys.map (·.1))) ↔ n' ∈ DataW.weightsEach P (fs.toList.map (·.type)) (ys.map (·.1)) := fun n' => by rw [DataW.weights, ht]
    have := h n cs ys (by rw [hl, hc]; omega) (by simpa using hyl) (fun i f hi => hfl i f (by simpa using hi)) (fun i f z hi hz n' hn' => hf n' ((hw n').2 (weightsEach_mem (i := i) (by simp [hi]) (by simp [hz]) hn')))
    simpa using this⟩
end
end Go.Proofs.YtioplgfopillnaaDoor

/- A piece, opened. -/
set_option linter.unusedSimpArgs false
set_option linter.unusedVariables false
namespace Go.Proofs.YtioplgfopillnaaDoor
open Go.ChangeShapes Go.WideShapes Go.ChangeAt Go.RowKit Go.Deep
theorem op_tok {H : Type} {enc : TypeId × Value → H} {W : World} {spare : Nat → Bool} {held : Bool} : Opens ETok enc Tryd.prog W spare held 57 (fun _ => True) := by
  refine (opens_struct Tryd.underlying57 (by kernel_rfl) (fop_cons rfl (opens_u8 Tryd.underlying5 (by kernel_rfl)) (fop_cons rfl (opens_int Tryd.underlying2 (by kernel_rfl)) (fop_cons rfl (opens_str Tryd.underlying9 (by kernel_rfl))
    (fop_one rfl (opens_u8 Tryd.underlying5 (by kernel_rfl))))))).map rfl (fun x => ⟨x.1, x.2.1, x.2.2.1, x.2.2.2⟩) ?_ ?_
  · rintro w S cs x ⟨c1, _, rfl, h1, c2, _, rfl, h2, c3, c4, rfl, h3, h4⟩
    show _ = _
    rw [show c1 = _ from h1, show c2 = _ from h2, show c3 = _ from h3, show c4 = _ from h4]; rfl
  · rintro x _
    trivial
end Go.Proofs.YtioplgfopillnaaDoor

/- Components at two paths leave one another: the walk made ready for the lifting; an act, opened. -/
set_option linter.unusedSimpArgs false
set_option linter.unusedVariables false
namespace Go.Proofs.YtioplgfopillnaaDoor
open Go.ChangeShapes Go.WideShapes Go.ChangeAt Go.RowKit Go.Deep
theorem op_act {H : Type} {enc : TypeId × Value → H} {W : World} {spare : Nat → Bool} {held : Bool} : Opens EAc enc Tryd.prog W spare held 43 Wf := by
  refine (opens_struct Tryd.underlying43 (by kernel_rfl) (fop_cons rfl (opens_slice EU8.ok Tryd.underlying41 (by kernel_rfl) (opens_u8 Tryd.underlying5 (by kernel_rfl))) (fop_cons rfl (opens_u8 Tryd.underlying5 (by kernel_rfl))
    (fop_cons rfl (opens_int Tryd.underlying3 (by kernel_rfl)) (fop_cons rfl (opens_int Tryd.underlying3 (by kernel_rfl)) (fop_cons rfl (opens_int Tryd.underlying2 (by kernel_rfl)) (fop_cons rfl (opens_str Tryd.underlying9 (by kernel_rfl))
    (fop_one rfl (opens_slice ETok.ok Tryd.underlying23 (by kernel_rfl) op_tok))))))))).map rfl (fun x => ⟨x.1, x.2.1, x.2.2.1, x.2.2.2.1, x.2.2.2.2.1, x.2.2.2.2.2.1, x.2.2.2.2.2.2⟩) ?_ ?_
  · rintro w S cs x ⟨c1, _, rfl, ⟨pv, h1, h1'⟩, c2, _, rfl, h2, c3, _, rfl, h3, c4, _, rfl, h4, c5, _, rfl, h5, c6, c7, rfl, h6, ⟨vv, h7, h7'⟩⟩
    exact ⟨pv, vv, by rw [h1, show c2 = _ from h2, show c3 = _ from h3, show c4 = _ from h4, show c5 = _ from h5, show c6 = _ from h6, h7]; rfl, h1', h7'⟩
  · rintro x ⟨_, _, h3, h4, h5, _, _⟩
    exact ⟨h3, h4, h5⟩
end Go.Proofs.YtioplgfopillnaaDoor

/- A region that draws its order, in a round of a loop over a function: what the plain laws show of it holds there. No program. -/
set_option linter.unusedSimpArgs false
set_option linter.unusedVariables false
namespace Go.Proofs.YtioplgfopillnaaDoor
open Go.RowKit

section
variable {P : Program} {l n : Nat}
end
end Go.Proofs.YtioplgfopillnaaDoor

/- val.within: an iterator over the values in one: whatever the loop's body does with them. -/
set_option linter.unusedSimpArgs false
set_option linter.unusedVariables false
namespace Go.Proofs.YtioplgfopillnaaDoor
open Go.RowKit Go.Shelf
set_option linter.unusedVariables false
attribute [local go_sem] Oper.semAt_some

/-- A value in one, as it lies in memory in w0, with its key. -/
structure Kid (w0 : World) (S : BS) (G : F → Prop) where
  key : ByteArray
  v : V
  A1 : Option Addr
  c1 : Nat
  A2 : Option Addr
  c2 : Nat
  at_ : VAt w0 S (.agg #[U8 v.kind, .int .i64 v.n, .string v.s, .slice A1 v.l.length c1, .slice A2 v.o.length c2]) v
  ok : G (.mk key v)
section
variable {w0 : World} {S : BS} {G : F → Prop}
def Kid.enc (x : Kid w0 S G) : Array Value := #[.string x.key, .agg #[U8 x.v.kind, .int .i64 x.v.n, .string x.v.s, .slice x.A1 x.v.l.length x.c1, .slice x.A2 x.v.o.length x.c2]]
end
end Go.Proofs.YtioplgfopillnaaDoor

/- Values whose texts are bounded; weights and depths. No program. -/
set_option linter.unusedSimpArgs false
set_option linter.unusedVariables false
namespace Go.Proofs.YtioplgfopillnaaDoor
open Go.RowKit

mutual
/-- No text in it is longer. -/
def VStr (R : Nat) : V → Prop
  | .mk _ _ s l o => s.size ≤ R ∧ VStrs R l ∧ FStrs R o
def VStrs (R : Nat) : List V → Prop
  | [] => True
  | v :: vs => VStr R v ∧ VStrs R vs
def FStr (R : Nat) : F → Prop
  | .mk k v => k.size ≤ R ∧ VStr R v
def FStrs (R : Nat) : List F → Prop
  | [] => True
  | f :: fs => FStr R f ∧ FStrs R fs
end
theorem VStr_iff (R : Nat) (v : V) : VStr R v ↔ v.s.size ≤ R ∧ VStrs R v.l ∧ FStrs R v.o := by cases v; rw [VStr]; exact Iff.rfl
theorem FStr_iff (R : Nat) (f : F) : FStr R f ↔ f.key.size ≤ R ∧ VStr R f.v := by cases f; rw [FStr]; exact Iff.rfl
theorem VStrs_iff (R : Nat) : ∀ (l : List V), VStrs R l ↔ ∀ x ∈ l, VStr R x
  | [] => by simp [VStrs]
  | v :: vs => by rw [VStrs, VStrs_iff R vs]; simp
theorem FStrs_iff (R : Nat) : ∀ (l : List F), FStrs R l ↔ ∀ x ∈ l, FStr R x
  | [] => by simp [FStrs]
  | v :: vs => by rw [FStrs, FStrs_iff R vs]; simp
theorem VStr.s {R : Nat} {x : V} (h : VStr R x) : x.s.size ≤ R := ((VStr_iff R x).1 h).1
theorem VStr.l {R : Nat} {x y : V} (h : VStr R x) (hy : y ∈ x.l) : VStr R y := (VStrs_iff R _).1 ((VStr_iff R x).1 h).2.1 y hy
theorem VStr.o {R : Nat} {x : V} {f : F} (h : VStr R x) (hy : f ∈ x.o) : f.key.size ≤ R ∧ VStr R f.v := (FStr_iff R f).1 ((FStrs_iff R _).1 ((VStr_iff R x).1 h).2.2 f hy)
/-- What the pieces bound. -/
def StrIs (ts : List Tk) (x : V) : Prop := ∀ R, (∀ t ∈ ts, t.s.size ≤ R) → VStr R x
def StrV (ts : List Tk) (xs : List V) : Prop := ∀ x ∈ xs, StrIs ts x
def StrF (ts : List Tk) (xs : List F) : Prop := ∀ f ∈ xs, (∀ R, (∀ t ∈ ts, t.s.size ≤ R) → f.key.size ≤ R) ∧ StrIs ts f.v
theorem StrV.nil (ts : List Tk) : StrV ts [] := fun x h => by simp at h
theorem StrF.nil (ts : List Tk) : StrF ts [] := fun x h => by simp at h
theorem StrIs.sub {ts ts' : List Tk} {x : V} (h : StrIs ts x) (hs : ∀ t ∈ ts, t ∈ ts') : StrIs ts' x := fun R hR => h R fun t ht => hR t (hs t ht)
theorem StrIs.key {ts : List Tk} {x : V} (h : StrIs ts x) : ∀ R, (∀ t ∈ ts, t.s.size ≤ R) → x.s.size ≤ R := fun R hR => (h R hR).s
mutual
theorem SV.str : ∀ (v : V), SV v → VStr 300 v
  | .mk k n s l o, h => by
    rw [SV] at h
    rw [VStr]
    refine ⟨?_, SVs.str l h.2.1, SFs.str o h.2.2.1⟩
    rcases h.1 with h | h | h | h | h | h
    · rw [h.2.2.1]; decide
    · rw [h.2.2.1]; decide
    · rw [h.2.1]; decide
    · exact h.2.2.1.2
    · rw [h.2.2.1]; decide
    · rw [h.2.2.1]; decide
theorem SVs.str : ∀ (l : List V), SVs l → VStrs 300 l
  | [], _ => by rw [VStrs]; trivial
  | v :: vs, h => by rw [SVs] at h; rw [VStrs]; exact ⟨SV.str v h.1, SVs.str vs h.2⟩
theorem SF.str : ∀ (f : F), SF f → FStr 300 f
  | .mk k v, h => by rw [SF] at h; rw [FStr]; exact ⟨h.1.2, SV.str v h.2⟩
theorem SFs.str : ∀ (l : List F), SFs l → FStrs 300 l
  | [], _ => by rw [FStrs]; trivial
  | v :: vs, h => by rw [SFs] at h; rw [FStrs]; exact ⟨SF.str v h.1, SFs.str vs h.2⟩
end

/-! ### Weight and depth -/
mutual
def V.weight : V → Nat
  | .mk _ _ s l o => 1 + s.size + (V.weights l + F.weights o)
def V.weights : List V → Nat
  | [] => 0
  | v :: vs => v.weight + V.weights vs
def F.weight : F → Nat
  | .mk k v => k.size + v.weight
def F.weights : List F → Nat
  | [] => 0
  | f :: fs => f.weight + F.weights fs
end
mutual
def V.deep : V → Nat
  | .mk _ _ _ l o => max (V.deeps l) (F.deeps o)
def V.deeps : List V → Nat
  | [] => 0
  | v :: vs => max (v.deep + 1) (V.deeps vs)
def F.deep : F → Nat
  | .mk _ v => v.deep + 1
def F.deeps : List F → Nat
  | [] => 0
  | f :: fs => max f.deep (F.deeps fs)
end
theorem V.weight_eq (v : V) : v.weight = 1 + v.s.size + (V.weights v.l + F.weights v.o) := by cases v; rw [V.weight]; rfl
theorem F.weight_eq (f : F) : f.weight = f.key.size + f.v.weight := by cases f; rw [F.weight]; rfl
theorem V.deep_eq (v : V) : v.deep = max (V.deeps v.l) (F.deeps v.o) := by cases v; rw [V.deep]; rfl
theorem F.deep_eq (f : F) : f.deep = f.v.deep + 1 := by cases f; rw [F.deep]; rfl
theorem V.weights_append : ∀ a b : List V, V.weights (a ++ b) = V.weights a + V.weights b
  | [], b => by simp [V.weights]
  | v :: vs, b => by rw [List.cons_append, V.weights, V.weights, V.weights_append vs b]; omega
theorem F.weights_append : ∀ a b : List F, F.weights (a ++ b) = F.weights a + F.weights b
  | [], b => by simp [F.weights]
  | v :: vs, b => by rw [List.cons_append, F.weights, F.weights, F.weights_append vs b]; omega
theorem V.deeps_append : ∀ a b : List V, V.deeps (a ++ b) = max (V.deeps a) (V.deeps b)
  | [], b => by simp [V.deeps]
  | v :: vs, b => by rw [List.cons_append, V.deeps, V.deeps, V.deeps_append vs b]; omega
theorem F.deeps_append : ∀ a b : List F, F.deeps (a ++ b) = max (F.deeps a) (F.deeps b)
  | [], b => by simp [F.deeps]
  | v :: vs, b => by rw [List.cons_append, F.deeps, F.deeps, F.deeps_append vs b]; omega
theorem V.weights_one (v : V) : V.weights [v] = v.weight := by simp [V.weights]
theorem F.weights_one (v : F) : F.weights [v] = v.weight := by simp [F.weights]
theorem V.deeps_one (v : V) : V.deeps [v] = v.deep + 1 := by simp [V.deeps]
theorem F.deeps_one (v : F) : F.deeps [v] = v.deep := by simp [F.deeps]
end Go.Proofs.YtioplgfopillnaaDoor

/- val.Weight at any value. -/
set_option linter.unusedSimpArgs false
set_option linter.unusedVariables false
namespace Go.Proofs.YtioplgfopillnaaDoor
open Go.RowKit Go.Shelf
set_option linter.unusedVariables false
attribute [local go_sem] Oper.semAt_some

theorem wrap_add (a b c : Int) : wrap64 (wrap64 a + wrap64 (b + wrap64 c)) = wrap64 (a + (b + c)) := by unfold wrap64; omega

end Go.Proofs.YtioplgfopillnaaDoor
