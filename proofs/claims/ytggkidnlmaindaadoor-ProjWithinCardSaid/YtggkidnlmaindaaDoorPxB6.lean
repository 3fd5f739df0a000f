/- RefSame, OwnTwo, RefCopy, Cuts: laid together. -/
import Derived.Test.YtggkidnlmaindaaDoorPxB5
import Derived.Test.YtggkidnlmaindaaDoorPxB1
import Derived.WalkKit
set_option linter.unusedSimpArgs false
set_option linter.unusedVariables false
set_option maxHeartbeats 25600000
set_option maxRecDepth 20000
namespace Go.Proofs.YtggkidnlmaindaaDoor
open Go.RowKit
theorem blk_pair (w : World) (T : TypeId) (a b : Array Value) : Blk ((w.alloc (.cells a T)).alloc (.cells b T)) w.heap.size T a ∧ Blk ((w.alloc (.cells a T)).alloc (.cells b T)) (w.heap.size + 1) T b ∧ Ext w ((w.alloc (.cells a T)).alloc (.cells b T)) := by
 have := Blk.new (w.alloc (.cells a T)) T b
 rw [World.size_alloc] at this
 exact ⟨(Blk.new _ _ _).alloc _, this, ((Keep.refl _ _).alloc _).alloc _⟩
theorem same_eq : ∀ (m : Nat) (x : V), x.size ≤ m → ∀ (u v : Value) (S1 S2 : BS) (w : World), VAt w S1 u x → VAt w S2 v x →
  Calls Tryd.prog 16 #[u, v] w fun e w' => e = .returned (.bool true) ∧ Ext w w' := by
 intro m
 induction m with
 | zero => intro x h; have := x.size_pos; omega
 | succ m ih =>
 intro x hsz u v S1 S2 w hu hv
 have hlen := V.size_eq x
 have HIH := hid ih
 have HLM := hid (fun (y : V) (hy : y ∈ x.l) => (by have := V.sizes_mem hy; omega : y.size ≤ m))
 have HOM := hid (fun (y : F) (hy : y ∈ x.o) => (by have := F.sizes_mem hy; omega : y.v.size ≤ m))
 clear ih hlen hsz
 obtain ⟨l1, o1, rfl, h1, h2⟩ := hu
 obtain ⟨l2, o2, rfl, h3, h4⟩ := hv
 obtain ⟨A1, c1, rfl, hc1, hm1⟩ := h1.shape
 obtain ⟨A2, c2, rfl, hc2, hm2⟩ := h2.shape
 obtain ⟨A3, c3, rfl, _, _⟩ := h3.shape
 obtain ⟨A4, c4, rfl, _, _⟩ := h4.shape
 unfold maxLen at hm1 hm2
 generalize x.kind = k at *
 generalize x.n = n at *
 generalize x.s = s at *
 generalize x.l = xs at *
 generalize x.o = xo at *
 have H1 := hid h1
 have H2 := hid h2
 have H3 := hid h3
 have H4 := hid h4
 obtain ⟨hb0, hb1, hE⟩ := blk_pair w TVAL #[U8 k, .int .i64 n, .string s, .slice A1 xs.length c1, .slice A2 xo.length c2] #[U8 k, .int .i64 n, .string s, .slice A3 xs.length c3, .slice A4 xo.length c4]
 have HB0 := hid hb0
 have HB1 := hid hb1
 have HE := hid hE
 clear h1 h2 h3 h4 hb0 hb1 hE
 have e1 : ((k.toNat : Int) == k.toNat) = true := by simp
 have e2 : (n == n) = true := by simp
 have e4 : ((xs.length : Int) == xs.length) = true := by simp
 have e5 : ((xo.length : Int) == xo.length) = true := by simp
 go_enter Tryd.func16, Tryd.ntmps16
 go_wp2_with fail
 generalize ((w.alloc (.cells #[U8 k, .int .i64 n, .string s, .slice A1 xs.length c1, .slice A2 xo.length c2] TVAL)).alloc (.cells #[U8 k, .int .i64 n, .string s, .slice A3 xs.length c3, .slice A4 xo.length c4] TVAL)) = w0 at *
 go_loopw [5] (fun y wr => ∃ (j : Nat), j ≤ xs.length ∧ y = .int .i64 j ∧ Ext w0 wr) (fun y _ => xs.length - (intOf y).toNat)
 case atStart => exact ⟨0, by omega, rfl, Keep.refl _ _⟩
 case round =>
  obtain ⟨j, hj, rfl, hr⟩ := hrel
  have hx := HB0.out.keep hr id
  have hy := HB1.out.keep hr id
  have x3 : wr.cell? ⟨w.heap.size, 3, none⟩ = some (.slice A1 xs.length c1) := hx.cell 3
  have x4 : wr.cell? ⟨w.heap.size, 4, none⟩ = some (.slice A2 xo.length c2) := hx.cell 4
  have y3 : wr.cell? ⟨w.heap.size + 1, 3, none⟩ = some (.slice A3 xs.length c3) := hy.cell 3
  have y4 : wr.cell? ⟨w.heap.size + 1, 4, none⟩ = some (.slice A4 xo.length c4) := hy.cell 4
  have HR := hid (HE.out.ext hr)
  have HR0 := hid hr
  clear hx hy hr
  by_cases hlt : j < xs.length
  ·obtain ⟨b1, f1, d1, rfl, hb1, hs1, hr1, hc1'⟩ := (H1.out.ext EVal.ok HR.out).at_ EVal.ok hlt
   obtain ⟨b2, f2, d2, rfl, hb2, hs2, hr2, hc2'⟩ := (H3.out.ext EVal.ok HR.out).at_ EVal.ok hlt
   obtain ⟨B1, n1, z1, B2, n2, z2, rfl, _, _, hva⟩ := EVal_cells hr1
   obtain ⟨B3, n3, z3, B4, n4, z4, rfl, _, _, hvb⟩ := EVal_cells hr2
   have p0 := hc1' 0 _ rfl
   have p1 := hc1' 1 _ rfl
   have p2 := hc1' 2 _ rfl
   have p3 := hc1' 3 _ rfl
   have p4 := hc1' 4 _ rfl
   have q0 := hc2' 0 _ rfl
   have q1 := hc2' 1 _ rfl
   have q2 := hc2' 2 _ rfl
   have q3 := hc2' 3 _ rfl
   have q4 := hc2' 4 _ rfl
   have e5' : EVal.size = 5 := rfl
   simp only [e5', Nat.add_zero] at p0 p1 p2 p3 p4 q0 q1 q2 q3 q4
   have HVA := hid hva
   have HVB := hid hvb
   have HXM := hid (HLM.out xs[j] (List.getElem_mem hlt))
   have hjX : (j : Int) < xs.length := by omega
   clear hc1' hc2' hr1 hr2 hva hvb e5' hs1 hs2 hb1 hb2
   generalize xs[j] = y at *
   go_wp2_with fail
   refine wp_region_grow (specOf [(10, fun v _ => v = .bool true)]) (fun w' => Ext wr w') ?_ (stableC_ext _) (by kernel_rfl) (by kernel_rfl) (Keep.drew (Keep.refl _ _)) ?_
   ·exact stable_cons (fun v w w' h he => h) stable_nil
   iterate 10
    (try simp only [Act.put, sqa, sqb, sqc])
    refine grow_run rfl rfl rfl ?_
    apply Exists.intro
    refine ⟨fun w' hC hK => ?_, ?_⟩
    ·have x3 := sqw hC x3
     have y3 := sqw hC y3
     have p0 := sqw hC p0
     have p1 := sqw hC p1
     have p2 := sqw hC p2
     have p3 := sqw hC p3
     have p4 := sqw hC p4
     have q0 := sqw hC q0
     have q1 := sqw hC q1
     have q2 := sqw hC q2
     have q3 := sqw hC q3
     have q4 := sqw hC q4
     go_simp
     rfl
   (try simp only [Act.put, sqa, sqb, sqc])
   refine grow_eff rfl rfl rfl (fun w' hC hK => ?_) (fun v10 hv10 => ?_)
   ·unfold growAt
    go_simp
    refine grow_call ((HIH.out y HXM.out _ _ _ _ w' (HVA.out.ext hC) (HVB.out.ext hC)).mono ?_)
    rintro e w'' ⟨rfl, h1⟩
    exact ⟨_, rfl, h1, rfl⟩
   obtain ⟨_, _, rfl⟩ := hv10.head
   iterate 1
    (try simp only [Act.put, sqa, sqb, sqc])
    refine grow_run rfl rfl rfl ?_
    apply Exists.intro
    refine ⟨fun w' hC hK => ?_, ?_⟩
    ·go_simp
     rfl
   refine grow_nil fun w4 hC _ => ?_
   have HC4 := hid (HR0.out.ext (show Ext wr w4 from hC))
   clear hC hv10 x3 x4 y3 y4 p0 p1 p2 p3 p4 q0 q1 q2 q3 q4 HVA HVB
   go_wp2
   exact ⟨⟨j + 1, by omega, by go_num, HC4.out⟩, by simp [intOf]; omega⟩
  ·obtain rfl : j = xs.length := by omega
   go_wp2_with fail
   clear x3 x4 y3 y4
   go_loopw [7] (fun y wr => ∃ (j : Nat), j ≤ xo.length ∧ y = .int .i64 j ∧ Ext w0 wr) (fun y _ => xo.length - (intOf y).toNat)
   case atStart => exact ⟨0, by omega, rfl, HR0.out⟩
   case round =>
    clear HR HR0
    obtain ⟨j, hj, rfl, hr⟩ := hrel
    have hx := HB0.out.keep hr id
    have hy := HB1.out.keep hr id
    have x4 : wr.cell? ⟨w.heap.size, 4, none⟩ = some (.slice A2 xo.length c2) := hx.cell 4
    have y4 : wr.cell? ⟨w.heap.size + 1, 4, none⟩ = some (.slice A4 xo.length c4) := hy.cell 4
    have HR := hid (HE.out.ext hr)
    have HR0 := hid hr
    clear hx hy hr
    by_cases hlt : j < xo.length
    ·obtain ⟨b1, f1, d1, rfl, hb1, hs1, hr1, hc1'⟩ := (H2.out.ext EField.ok HR.out).at_ EField.ok hlt
     obtain ⟨b2, f2, d2, rfl, hb2, hs2, hr2, hc2'⟩ := (H4.out.ext EField.ok HR.out).at_ EField.ok hlt
     obtain ⟨lv1, ov1, rfl, ⟨D1, g1, rfl⟩, ⟨D2, g2, rfl⟩, hva⟩ := EField_cells hr1
     obtain ⟨lv2, ov2, rfl, ⟨D3, g3, rfl⟩, ⟨D4, g4, rfl⟩, hvb⟩ := EField_cells hr2
     have p0 := hc1' 0 _ rfl
     have p1 := hc1' 1 _ rfl
     have p2 := hc1' 2 _ rfl
     have p3 := hc1' 3 _ rfl
     have p4 := hc1' 4 _ rfl
     have p5 := hc1' 5 _ rfl
     have q0 := hc2' 0 _ rfl
     have q1 := hc2' 1 _ rfl
     have q2 := hc2' 2 _ rfl
     have q3 := hc2' 3 _ rfl
     have q4 := hc2' 4 _ rfl
     have q5 := hc2' 5 _ rfl
     have e5' : EField.size = 6 := rfl
     simp only [e5', Nat.add_zero] at p0 p1 p2 p3 p4 p5 q0 q1 q2 q3 q4 q5
     have HVA := hid hva
     have HVB := hid hvb
     have HXM := hid (HOM.out xo[j] (List.getElem_mem hlt))
     have hjX : (j : Int) < xo.length := by omega
     clear hc1' hc2' hr1 hr2 hva hvb e5' hs1 hs2 hb1 hb2
     generalize xo[j] = y at *
     go_wp2_with fail
     refine wp_region_grow (specOf [(12, fun v _ => v = .bool true)]) (fun w' => Ext wr w') ?_ (stableC_ext _) (by kernel_rfl) (by kernel_rfl) (Keep.drew (Keep.refl _ _)) ?_
     ·exact stable_cons (fun v w w' h he => h) stable_nil
     iterate 12
      (try simp only [Act.put, sqa, sqb, sqc])
      refine grow_run rfl rfl rfl ?_
      apply Exists.intro
      refine ⟨fun w' hC hK => ?_, ?_⟩
      ·have x4 := sqw hC x4
       have y4 := sqw hC y4
       have p1 := sqw hC p1
       have p2 := sqw hC p2
       have p3 := sqw hC p3
       have p4 := sqw hC p4
       have p5 := sqw hC p5
       have q1 := sqw hC q1
       have q2 := sqw hC q2
       have q3 := sqw hC q3
       have q4 := sqw hC q4
       have q5 := sqw hC q5
       go_simp
       rfl
     (try simp only [Act.put, sqa, sqb, sqc])
     refine grow_eff rfl rfl rfl (fun w' hC hK => ?_) (fun v10 hv10 => ?_)
     ·unfold growAt
      go_simp
      refine grow_call ((HIH.out y.v HXM.out _ _ _ _ w' (HVA.out.ext hC) (HVB.out.ext hC)).mono ?_)
      rintro e w'' ⟨rfl, h1⟩
      exact ⟨_, rfl, h1, rfl⟩
     obtain ⟨_, _, rfl⟩ := hv10.head
     iterate 1
      (try simp only [Act.put, sqa, sqb, sqc])
      refine grow_run rfl rfl rfl ?_
      apply Exists.intro
      refine ⟨fun w' hC hK => ?_, ?_⟩
      ·go_simp
       rfl
     refine grow_nil fun w4 hC _ => ?_
     have hC : Ext wr w4 := hC
     have HC4 := hid (HR0.out.ext hC)
     replace x4 := sqw hC x4
     replace y4 := sqw hC y4
     replace p0 := sqw hC p0
     replace q0 := sqw hC q0
     clear hC hv10 p1 p2 p3 p4 p5 q1 q2 q3 q4 q5 HVA HVB
     go_wp2_with fail
     refine wp_region_grow (specOf []) (fun w' => Ext w4 w') stable_nil (stableC_ext _) (by kernel_rfl) (by kernel_rfl) (Keep.drew (Keep.refl _ _)) ?_
     iterate 17
      (try simp only [Act.put, sqa, sqb, sqc])
      refine grow_run rfl rfl rfl ?_
      apply Exists.intro
      refine ⟨fun w' hC hK => ?_, ?_⟩
      ·have x4 := sqw hC x4
       have y4 := sqw hC y4
       have p0 := sqw hC p0
       have q0 := sqw hC q0
       go_simp
       rfl
     refine grow_nil fun w5 hC _ => ?_
     have HC5 := hid (HC4.out.ext (show Ext w4 w5 from hC))
     clear hC x4 y4 p0 q0
     go_wp2
     exact ⟨⟨j + 1, by omega, by go_num, HC5.out⟩, by simp [intOf]; omega⟩
    ·obtain rfl : j = xo.length := by omega
     go_wp2_with fail
     go_ret
     exact ⟨rfl, HR.out⟩
section
variable {P : Program} {α : Type} {E : El α} {w : World} {S S2 : BS} {base : Nat} {t T : TypeId} {v y : Value} {xs ys : List α} {bytes : Nat}
theorem own_append2 {SR : BS} {ds : List Value} (hE : E.Ok) (ht : TyInfo P t T E.size bytes) (ty : TypeId) (hown : Own E w base T S v xs) (hsr : RowS w SR E.size y ys.length ds) (hds : Cells E w S2 ds ys)
  (hg : ∀ g, v.ownBlock = some g → ¬ S g ∧ ¬ S2 g)
  (h63 : xs.length + ys.length ≤ maxLen) (hbytes : (xs.length + ys.length) * bytes ≤ 140737488355328) (hbase : base ≤ w.heap.size) :
  ∃ v' w', (Builtin.append_ #[t, t] ty #[v, y]).run P w = .ok v' w' ∧ Own E w' base T (fun k => S k ∨ S2 k) v' (xs ++ ys) ∧ w.grownBy w' v.ownBlock ∧ (v'.ownBlock = v.ownBlock ∨ v'.ownBlock = some w.heap.size) := by
 obtain ⟨i, z, hi, hz, hsize, hby, hzs⟩ := ht.info
 obtain ⟨cs, hrow, hcs⟩ := hown.toRow hE
 obtain ⟨hl, A, c, rfl, _, _, hcell⟩ := hsr
 have hfin : ∀ v' w', w'.ownsRow base T E.size v' (xs.length + ys.length) (cs ++ ds) → w.grownBy w' v.ownBlock → Own E w' base T (fun k => S k ∨ S2 k) v' (xs ++ ys) := by
  intro v' w' h1 h2
  rw [← List.length_append] at h1
  refine Own.ofRow h1 ?_
  have hk : Keep (fun k => v.ownBlock = some k) w w' := (Keep.refl _ _).grown h2 (fun k e _ => e)
  refine Cells.append ?_ ?_
  ·exact (hcs.keep hE hk fun k hs e => (hg k e).1 hs).more hE fun _ _ h => .inl h
  ·cases hb : v.ownBlock with
   | none =>
    rw [hb] at hk
    exact (hds.keep hE hk fun k _ e => by cases e).more hE fun _ _ h => .inr h
   | some g =>
    rw [hb] at hk
    exact (hds.keep hE hk fun k hs e => (hg g hb).2 (by injection e with e; subst e; exact hs)).more hE fun _ _ h => .inr h
 rcases A with _ | ad
 ·have hm : ys = [] := by
   rcases Nat.eq_zero_or_pos ys.length with h0 | h0
   ·exact List.eq_nil_of_length_eq_zero h0
   ·obtain ⟨b, off, h, _⟩ := hcell h0
    cases h
  subst hm
  have hn : ds = [] := List.eq_nil_of_length_eq_zero (by simpa using hl)
  subst hn
  have hrun : (Builtin.append_ #[t, t] ty #[v, .slice none 0 c]).run P w = .ok v w := by
   rcases hrow.2 with ⟨rfl, h0⟩ | ⟨g, cap, cur, rfl, _, _, hnc, _⟩
   ·simp [Builtin.append_, run_underlying ht.under, sizeOf, typeInfo, hi, Builtin.lenOf, Builtin.firstCells]
   ·simp [Builtin.append_, run_underlying ht.under, sizeOf, typeInfo, hi, Builtin.lenOf, Builtin.firstCells, hnc, storeCells]
  exact ⟨v, w, hrun, hfin v w (by simpa using hrow) (World.grownBy.refl w _), World.grownBy.refl w _, .inl rfl⟩
 ·have hcells : ∀ j u, ds[j]? = some u → w.cell? (ad.add j) = some u := by
   intro j u hu
   rcases Nat.eq_zero_or_pos ys.length with h0 | h0
   ·have hn : ds = [] := List.eq_nil_of_length_eq_zero (by simp [hl, h0])
    subst hn
    simp at hu
   ·obtain ⟨b, off, e, _, _, hc⟩ := hcell h0
    injection e with e
    subst e
    have := hc j u hu
    unfold Addr.add
    split
    ·rename_i h0; subst h0; simpa using this
    ·exact this
  obtain ⟨v', w', hrun, h2, h3, _, h5⟩ := run_append_own_at (P := P) w base t ty T i z E.size bytes ht.under hi hz hsize hby hzs hE.pos v xs.length cs hrow ad ys.length c ds hl hcells (hds.one hE) h63 hbytes hbase
  exact ⟨v', w', hrun, hfin v' w' h2 h3, h3, h5⟩
theorem wpList_own_append2 (w : World) {SR : BS} {ds : List Value} {ops : Array Oper} {rest : List Oper} {o : Oper} {a : Act} {Q : Exit → Act → World → Prop} (hgd : o.guard = none) (s x : Operand)
  (hE : E.Ok) (ht : TyInfo P t T E.size bytes) (ho : o.op = .call { callee := .builtin .append, args := #[s, x], argTypes := #[t, t] })
  (hs : a.eval s = v) (hx : a.eval x = y) (hown : Own E w base T S v xs) (hsr : RowS w SR E.size y ys.length ds) (hds : Cells E w S2 ds ys) (hg : ∀ g, v.ownBlock = some g → ¬ S g ∧ ¬ S2 g)
  (hbytes : (xs.length + ys.length) * bytes ≤ 140737488355328) (h63 : xs.length + ys.length ≤ maxLen) (hbase : base ≤ w.heap.size)
  (h : ∀ v' w', Own E w' base T (fun k => S k ∨ S2 k) v' (xs ++ ys) → Keep (fun k => v.ownBlock = some k) w w' → (v'.ownBlock = v.ownBlock ∨ v'.ownBlock = some w.heap.size) → wpList P ops Q rest (a.put o.dst v') w') : wpList P ops Q (o :: rest) a w := by
 obtain ⟨v', w', hrun, h1, h2, h3⟩ := own_append2 (P := P) (w := w) hE ht o.type hown hsr hds hg h63 hbytes hbase
 refine wpList_plain hgd fun K hK => ?_
 unfold Oper.wp execOp
 simp only [ho, resolve, invoke, builtin, Sem.run_bind, Sem.run_pure, Result.andThen_ok, List.map_toArray, List.map_cons, List.map_nil, hs, hx, hrun]
 exact hK _ _ (h v' w' h1 ((Keep.refl _ _).grown h2 (fun k e _ => e)) h3)
end
abbrev DS (w : World) (lo : Nat) (v : Value) : BS := fun q => lo ≤ q ∧ q < w.heap.size ∧ v.ownBlock ≠ some q
theorem ds_more {α : Type} {E : El α} (hE : E.Ok) {w w' : World} {base lo : Nat} {T : TypeId} {v : Value} {xs : List α} (h : Own E w base T (DS w lo v) v xs) (he : Ext w w') : Own E w' base T (DS w' lo v) v xs :=
 (h.ext hE he).more hE fun k _ h => ⟨h.1, Nat.lt_of_lt_of_le h.2.1 he.size, h.2.2⟩
theorem ds_next {α : Type} {E : El α} (hE : E.Ok) {wr w' : World} {base lo N : Nat} {T : TypeId} {S2 : BS} {v v' : Value} {xs : List α} (h : Own E w' base T (fun k => DS wr lo v k ∨ S2 k) v' xs)
  (h1 : wr.heap.size ≤ N) (h2 : N ≤ w'.heap.size) (hS2 : ∀ k, S2 k → wr.heap.size ≤ k ∧ k < N) (hlo : lo ≤ wr.heap.size) (hv : ∀ g, v.ownBlock = some g → g < wr.heap.size) (hb : v'.ownBlock = v.ownBlock ∨ v'.ownBlock = some N) : Own E w' base T (DS w' lo v') v' xs :=
 h.more hE fun k _ hk => by
  rcases hk with ⟨a, b, c⟩ | hk
  ·refine ⟨a, by omega, fun e => ?_⟩
   rcases hb with hb | hb
   ·exact c (hb.symm.trans e)
   ·rw [hb] at e; injection e with e; omega
  ·have := hS2 k hk
   refine ⟨by omega, by omega, fun e => ?_⟩
   rcases hb with hb | hb
   ·have := hv k (hb.symm.trans e); omega
   ·rw [hb] at e; injection e with e; omega
def RCopyIs (w : World) (v : V) (e : Ending) (w' : World) : Prop := ∃ lv ov, e = .returned (.agg #[U8 v.kind, .int .i64 v.n, .string v.s, lv, ov]) ∧ Own EVal w' w.heap.size TVAL (fun q => w.heap.size ≤ q ∧ q < w'.heap.size ∧ lv.ownBlock ≠ some q ∧ ov.ownBlock ≠ some q) lv v.l ∧
 Own EField w' w.heap.size TFIELD (fun q => w.heap.size ≤ q ∧ q < w'.heap.size ∧ lv.ownBlock ≠ some q ∧ ov.ownBlock ≠ some q) ov v.o ∧ (∀ g, lv.ownBlock = some g → ov.ownBlock ≠ some g) ∧ Ext w w'
theorem RCopyIs.at_ {w : World} {v : V} {e : Ending} {w' : World} (h : RCopyIs w v e w') : ∃ u', e = .returned u' ∧ VAt w' (fun k => w.heap.size ≤ k) u' v ∧ Ext w w' := by
 obtain ⟨lv, ov, h1, h2, h3, h5, h4⟩ := h
 exact ⟨_, h1, ⟨lv, ov, rfl, (h2.sl EVal.ok).more EVal.ok fun q _ h => h.elim (fun h => h.1) fun h => (h2.lt h).1, (h3.sl EField.ok).more EField.ok fun q _ h => h.elim (fun h => h.1) fun h => (h3.lt h).1⟩, h4⟩
theorem rcopy_fin {wr : World} {b0 b1 : Nat} {T : TypeId} {cur : Array Value} (hne : b1 ≠ b0) (hb1 : Blk wr b1 T cur) (hc : cur.size = 5) (u3 u4 v0 v1 v2 v3 v4 : Value) : Blk (((((((wr.setCell ⟨b0, 3, none⟩ u3).setCell ⟨b0, 4, none⟩ u4).setCell ⟨b1, 0, none⟩ v0).setCell ⟨b1, 1, none⟩ v1).setCell ⟨b1, 2, none⟩ v2).setCell ⟨b1, 3, none⟩ v3).setCell ⟨b1, 4, none⟩ v4) b1 T #[v0, v1, v2, v3, v4] ∧ Keep (fun k => k = b0 ∨ k = b1) wr (((((((wr.setCell ⟨b0, 3, none⟩ u3).setCell ⟨b0, 4, none⟩ u4).setCell ⟨b1, 0, none⟩ v0).setCell ⟨b1, 1, none⟩ v1).setCell ⟨b1, 2, none⟩ v2).setCell ⟨b1, 3, none⟩ v3).setCell ⟨b1, 4, none⟩ v4) := by
 refine ⟨?_, (Keep.setAt (Keep.setAt (Keep.setAt (Keep.setAt (Keep.setAt (Keep.setAt (Keep.setAt (Keep.refl (fun k => k = b0 ∨ k = b1) wr) (fun _ => .inl rfl) 3 u3) (fun _ => .inl rfl) 4 u4) (fun _ => .inr rfl) 0 v0) (fun _ => .inr rfl) 1 v1) (fun _ => .inr rfl) 2 v2) (fun _ => .inr rfl) 3 v3) (fun _ => .inr rfl) 4 v4)⟩
 have g0 : Blk ((wr.setCell ⟨b0, 3, none⟩ u3).setCell ⟨b0, 4, none⟩ u4) b1 T cur := hb1.keep (F := fun k => k = b0) (Keep.setAt (Keep.setAt (Keep.refl (fun k => k = b0) wr) (fun _ => rfl) 3 u3) (fun _ => rfl) 4 u4) hne
 have : ∃ a b c d e, cur = #[a, b, c, d, e] := by
  obtain ⟨l⟩ := cur
  match l, hc with
  | [a, b, c, d, e], _ => exact ⟨a, b, c, d, e, rfl⟩
 obtain ⟨a, b, c, d, e, rfl⟩ := this
 exact (Blk.set_ (Blk.set_ (Blk.set_ (Blk.set_ (Blk.set_ g0 0 v0) 1 v1) 2 v2) 3 v3) 4 v4)
set_option maxRecDepth 100000 in
theorem rcopy_any : ∀ (m : Nat) (v : V), v.size ≤ m → m ≤ 1000000 → ∀ (u : Value) (S : BS) (w : World), VAt w S u v → Calls Tryd.prog 11 #[u] w (RCopyIs w v) := by
 intro m
 induction m with
 | zero => intro v h; have := v.size_pos; omega
 | succ m ih =>
 intro v hsz hm u S w hu
 have hlen := V.size_eq v
 have hl1 := V.sizes_len v.l
 have ho1 := F.sizes_len v.o
 have HIH := hid ih
 have HLM := hid (fun (x : V) (hx : x ∈ v.l) => (by have := V.sizes_mem hx; omega : x.size ≤ m))
 have HOM := hid (fun (x : F) (hx : x ∈ v.o) => (by have := F.sizes_mem hx; omega : x.v.size ≤ m))
 have hll : v.l.length ≤ 1000000 := by omega
 have hol : v.o.length ≤ 1000000 := by omega
 clear ih hlen hl1 ho1 hsz
 obtain ⟨l1, o1, rfl, h1, h2⟩ := hu
 obtain ⟨A1, c1, rfl, hc1, hm1⟩ := h1.shape
 obtain ⟨A2, c2, rfl, hc2, hm2⟩ := h2.shape
 have HV : Hid (RCopyIs w v = RCopyIs w (.mk v.kind v.n v.s v.l v.o)) := hid (by cases v; rfl)
 rw [HV.out]
 clear HV
 generalize v.kind = k at *
 generalize v.n = n at *
 generalize v.s = s at *
 generalize v.l = xs at *
 generalize v.o = xo at *
 have H1 := hid h1
 have H2 := hid h2
 obtain ⟨hb0, hb1, hE⟩ := blk_pair w TVAL #[U8 k, .int .i64 n, .string s, .slice A1 xs.length c1, .slice A2 xo.length c2] #[.int .u8 0, .int .i64 0, .string ⟨#[]⟩, .slice none 0 0, .slice none 0 0]
 have HB0 := hid hb0
 have HB1 := hid hb1
 have HE := hid hE
 have HZ := hid (show w.heap.size + 2 ≤ ((w.alloc (.cells #[U8 k, .int .i64 n, .string s, .slice A1 xs.length c1, .slice A2 xo.length c2] TVAL)).alloc (.cells #[.int .u8 0, .int .i64 0, .string ⟨#[]⟩, .slice none 0 0, .slice none 0 0] TVAL)).heap.size from by rw [World.size_alloc, World.size_alloc]; omega)
 clear h1 h2 hb0 hb1 hE hm1 hm2
 go_enter Tryd.func11, Tryd.ntmps11
 go_wp2_with fail
 generalize ((w.alloc (.cells #[U8 k, .int .i64 n, .string s, .slice A1 xs.length c1, .slice A2 xo.length c2] TVAL)).alloc (.cells #[.int .u8 0, .int .i64 0, .string ⟨#[]⟩, .slice none 0 0, .slice none 0 0] TVAL)) = w0 at *
 go_loopw [3, 4] (fun x y wr => ∃ (j : Nat), j ≤ xs.length ∧ y = .int .i64 j ∧ Own EVal wr w0.heap.size TVAL (DS wr w0.heap.size x) x (xs.take j) ∧ Ext w0 wr) (fun _ y _ => xs.length - (intOf y).toNat)
 case atStart => exact ⟨0, by omega, rfl, Own.nil _ _ _ _, Keep.refl _ _⟩
 case round =>
  obtain ⟨j, hj, rfl, hown, hr⟩ := hrel
  obtain ⟨A3, c3, rfl, hl3, hc3⟩ := hown.shape
  have hx := HB0.out.keep hr id
  have x3 : wr.cell? ⟨w.heap.size, 3, none⟩ = some (.slice A1 xs.length c1) := hx.cell 3
  have x4 : wr.cell? ⟨w.heap.size, 4, none⟩ = some (.slice A2 xo.length c2) := hx.cell 4
  have HR0 := hid hr
  by_cases hlt : j < xs.length
  ·obtain ⟨b1, f1, d1, rfl, _, _, hr1, hc1'⟩ := (H1.out.ext EVal.ok (HE.out.ext hr)).at_ EVal.ok hlt
   obtain ⟨B1, n1, z1, B2, n2, z2, rfl, _, _, hva⟩ := EVal_cells hr1
   have HTS := hid (take_succ_get xs j hlt)
   have HLJ := hid (show (xs.take j).length = j from by rw [List.length_take]; omega)
   have p0 := hc1' 0 _ rfl
   have p1 := hc1' 1 _ rfl
   have p2 := hc1' 2 _ rfl
   have p3 := hc1' 3 _ rfl
   have p4 := hc1' 4 _ rfl
   have e5 : EVal.size = 5 := rfl
   simp only [e5, Nat.add_zero] at p0 p1 p2 p3 p4
   have HC := hid (HIH.out xs[j] (HLM.out xs[j] (List.getElem_mem hlt)) (by omega) _ _ wr hva)
   have HO := hid hown
   have hjX : (j : Int) < xs.length := by omega
   clear hc1' hr1 hva e5 hown hr hx
   generalize xs.take j = ta at *
   generalize xs[j] = y at *
   go_wp2_with fail
   refine HC.out.mono ?_
   rintro e w5 hcp
   obtain ⟨u5, rfl, hv5, hE5⟩ := hcp.at_
   obtain ⟨lv5, ov5, rfl, hl5, ho5⟩ := hv5
   obtain ⟨A5, c5, rfl, _⟩ := hl5.shape
   obtain ⟨A6, c6, rfl, _⟩ := ho5.shape
   have hE6 : Ext w5 (w5.alloc (.cells (vC y A5 c5 A6 c6) TVAL)) := (Keep.refl _ _).alloc _
   have HOb := hid ((HO.out.ext EVal.ok hE5).ext EVal.ok hE6)
   have HRx := hid (RowS.new (w := w5) (t := TVAL) (sz := 5) (n := 1) (cs := [U8 y.kind, .int .i64 y.n, .string y.s, .slice A5 y.l.length c5, .slice A6 y.o.length c6]) rfl (by simp [maxLen]) (0, 0))
   have hva6 : VAt (w5.alloc (.cells (vC y A5 c5 A6 c6) TVAL)) (fun q => wr.heap.size ≤ q ∧ q < w5.heap.size) (.agg (vC y A5 c5 A6 c6)) y := VAt.ext (VAt.more (S := fun q => wr.heap.size ≤ q) ⟨_, _, rfl, hl5, ho5⟩ fun q h1 h2 => ⟨h2, h1⟩) hE6
   have HDx := hid (Cells.single (E := EVal) hva6.rd)
   have HE56 := hid (hE5.ext hE6)
   have HZ5 := hid hE5.size
   clear hE5 hE6 x3 x4 p0 p1 p2 p3 p4 HC hl5 ho5 hva6 hcp
   go_wp2_with (at_builtin; refine wpList_own_append2 (ys := [y]) _ rfl (.tmp 14) (.tmp 21) EVal.ok ty_val rfl rfl rfl HOb.out HRx.out HDx.out ?d1 ?d2 ?d3 ?d4 ?_)
   case d1 => exact fun g hg => ⟨fun h => h.2.2 hg, fun h => by have := (HO.out.lt (show (Value.slice A3 ta.length c3).ownBlock = some g from hg)).2; omega⟩
   case d2 => have := HLJ.out; simp only [List.length_singleton]; omega
   case d3 => have := HLJ.out; simp only [List.length_singleton, maxLen]; omega
   case d4 => exact Nat.le_trans HR0.out.size HE56.out.size
   intro v' w' hown' hk hb
   obtain ⟨A7, c7, rfl, hl7, hc7⟩ := hown'.shape
   have hk2 : Ext w0 w' := (HR0.out.ext HE56.out).trans hk fun k hlt e => by
    have := (HO.out.lt (show (Value.slice A3 ta.length c3).ownBlock = some k from e)).1; omega
   have HO3 : Hid (Own EVal w' w0.heap.size TVAL (DS w' w0.heap.size (.slice A7 (xs.take (j + 1)).length c7)) (.slice A7 (xs.take (j + 1)).length c7) (xs.take (j + 1))) := hid (by
    rw [HTS.out]
    exact ds_next (N := w5.heap.size + 1) EVal.ok hown' (by have := HZ5.out; omega) (by have := hk.size; rw [World.size_alloc] at this; exact this) (fun k h => ⟨h.1, by have := h.2; omega⟩) HR0.out.size (fun g hg => (HO.out.lt (show (Value.slice A3 ta.length c3).ownBlock = some g from hg)).2) hb)
   have HE3 := hid hk2
   have hlen5 : (ta ++ [y]).length = (xs.take (j + 1)).length := by rw [HTS.out]
   clear hown' hk hk2 hb HO HOb HRx HDx HE56
   rw [hlen5]
   go_wp2
   exact ⟨⟨j + 1, by omega, by go_num, HO3.out, HE3.out⟩, by simp [intOf]; omega⟩
  ·obtain rfl : j = xs.length := by omega
   rw [List.take_length] at *
   have HOL := hid hown
   clear hx hown hr H1 HLM
   obtain ⟨wl, rfl⟩ : ∃ wl, wl = wr := ⟨_, rfl⟩
   go_wp2_with fail
   clear x3 x4
   go_loopw [5, 6] (fun x y w1 => ∃ (j : Nat), j ≤ xo.length ∧ y = .int .i64 j ∧ Own EField w1 wl.heap.size TFIELD (DS w1 wl.heap.size x) x (xo.take j) ∧ Ext wl w1) (fun _ y _ => xo.length - (intOf y).toNat)
   case atStart => exact ⟨0, by omega, rfl, Own.nil _ _ _ _, Keep.refl _ _⟩
   case round =>
    obtain ⟨j, hj, rfl, hown, hr⟩ := hrel
    obtain ⟨A4, c4, rfl, hl4, hc4⟩ := hown.shape
    have hx := (HB0.out.keep HR0.out id).keep hr id
    have x4 := hx.cell 4
    simp at x4
    have HR1 := hid hr
    by_cases hlt : j < xo.length
    ·obtain ⟨b1, f1, d1, rfl, _, _, hr1, hc1'⟩ := (H2.out.ext EField.ok ((HE.out.ext HR0.out).ext hr)).at_ EField.ok hlt
     obtain ⟨lv1, ov1, rfl, ⟨D1, g1, rfl⟩, ⟨D2, g2, rfl⟩, hva⟩ := EField_cells hr1
     have HTS := hid (take_succ_get xo j hlt)
     have HLJ := hid (show (xo.take j).length = j from by rw [List.length_take]; omega)
     have p0 := hc1' 0 _ rfl
     have p1 := hc1' 1 _ rfl
     have p2 := hc1' 2 _ rfl
     have p3 := hc1' 3 _ rfl
     have p4 := hc1' 4 _ rfl
     have p5 := hc1' 5 _ rfl
     have e5 : EField.size = 6 := rfl
     simp only [e5, Nat.add_zero] at p0 p1 p2 p3 p4 p5
     have HXM := hid (HOM.out xo[j] (List.getElem_mem hlt))
     have HVA := hid hva
     have HO := hid hown
     have hjX : (j : Int) < xo.length := by omega
     clear hc1' hr1 hva e5 hown hr hx
     generalize xo.take j = ta at *
     generalize xo[j] = y at *
     go_wp2_with fail
     refine wp_region_parts [0, 1, 3, 7, 9] [2, 4, 5, 6, 8, 10, 11, 12, 13, 14, 15] [16, 17] (specOf [(13, fun u w' => VAt w' (fun k => wr.heap.size ≤ k) u y.v), (15, fun v w' => SlShape EField w' (fun k => wr.heap.size ≤ k) v 1 [y])])
      (fun w' => Ext wr w') ?_ (stableC_ext _) (by kernel_rfl) (by kernel_rfl) (Keep.drew (Keep.refl _ _)) ?_
     ·exact stable_cons (fun v w w' h he => h.ext he) (stable_cons (fun v w w' h he => h.ext EField.ok he) stable_nil)
     iterate 5
      (try simp only [Act.put, sqa, sqb, sqc])
      refine pure_run rfl rfl ?_
      apply Exists.intro
      refine ⟨fun w' => ?_, ?_⟩
      ·go_simp
       rfl
     refine pure_nil ?_
     iterate 8
      (try simp only [Act.put, sqa, sqb, sqc])
      refine growP_run rfl rfl rfl ?_
      apply Exists.intro
      refine ⟨fun w' hC hK => ?_, ?_⟩
      ·have x4 := sqw hC x4
       have p0 := sqw hC p0
       have p1 := sqw hC p1
       have p2 := sqw hC p2
       have p3 := sqw hC p3
       have p4 := sqw hC p4
       have p5 := sqw hC p5
       go_simp
       rfl
     (try simp only [Act.put, sqa, sqb, sqc])
     refine growP_eff rfl rfl rfl (fun w' hC hK => ?_) (fun v13 hv13 => ?_)
     ·unfold growAt
      go_simp
      refine grow_call ((HIH.out y.v HXM.out (by omega) _ _ _ (HVA.out.ext hC)).mono ?_)
      intro e w'' hcp
      obtain ⟨u', rfl, h1, h2⟩ := hcp.at_
      exact ⟨_, rfl, h2, h1.more fun k _ h => by have := hC.size; omega⟩
     obtain ⟨_, _, lv8, ov8, rfl, hl8, ho8⟩ := hv13.head
     obtain ⟨A8, d8, rfl, _⟩ := hl8.shape
     obtain ⟨A9, d9, rfl, _⟩ := ho8.shape
     clear hl8 ho8
     iterate 1
      (try simp only [Act.put, sqa, sqb, sqc])
      refine growP_run rfl rfl rfl ?_
      apply Exists.intro
      refine ⟨fun w' hC hK => ?_, ?_⟩
      ·go_simp
       rfl
     (try simp only [Act.put, sqa, sqb, sqc])
     refine growP_eff rfl rfl rfl (fun w' hC hK => ?_) (fun v15 hv15 => ?_)
     ·unfold growAt
      go_simp
      have h13 : VAt w' (fun k => wr.heap.size ≤ k) (.agg (vC y.v A8 d8 A9 d9)) y.v := hK.get (i := 13) List.mem_cons_self (by kernel_rfl)
      refine ⟨(Keep.refl _ _).alloc _, _, _, rfl, [_, _, _, _, _, _], ?_, Cells.single (rdF_iff.2 ⟨_, rfl, (h13.ext ((Keep.refl _ _).alloc _)).rd⟩)⟩
      exact (RowS.new (sz := 6) (cs := [_, _, _, _, _, _]) (n := 1) rfl (by simp [maxLen])).more fun k _ e => by have := hC.size; omega
     obtain ⟨_, _, A10, d10, rfl, _⟩ := hv15.head
     refine growP_nil fun w4 hC hK => ?_
     obtain ⟨_, _, _, f7⟩ : SlShape EField w4 (fun k => wr.heap.size ≤ k) (.slice A10 1 d10) 1 [y] := hK (15, _) List.mem_cons_self
     change wpList _ _ _ (_ :: _ :: []) _ _
     have hC' : Ext wr w4 := hC
     have hO4 := HO.out.ext EField.ok hC'
     have hsrc := f7.more (S' := fun k => wr.heap.size ≤ k ∧ k < w4.heap.size) EField.ok (fun k h1 h2 => ⟨h2, h1⟩)
     have HC4 := hid hC'
     clear hC hC' hK hv13 hv15 f7 x4 p0 p1 p2 p3 p4 p5
     (try simp only [Act.put, sqa, sqb, sqc])
     refine wpList_own_append (P := Tryd.prog) (E := EField) (v := .slice A4 ta.length c4) (y := .slice A10 1 d10) w4 rfl (.tmp 30) (.tmp 45) EField.ok ty_field ?_ ?_ ?_ hO4 hsrc ?_ ?_ ?_ (Nat.le_trans HR1.out.size HC4.out.size) ?_
     ·rfl
     ·rfl
     ·rfl
     ·exact fun g hg => ⟨fun h => h.2.2 hg, fun h => by have := (HO.out.lt hg).2; omega⟩
     ·have := HLJ.out; simp only [List.length_singleton]; omega
     ·have := HLJ.out; simp only [List.length_singleton, maxLen]; omega
     intro v' w' hown' hk hb
     obtain ⟨A7, c7, rfl, hl7, hc7⟩ := hown'.shape
     have hk2 : Ext wl w' := (HR1.out.ext HC4.out).trans hk fun k hlt e => by
      have := (HO.out.lt (show (Value.slice A4 ta.length c4).ownBlock = some k from e)).1; omega
     have HO3 : Hid (Own EField w' wl.heap.size TFIELD (DS w' wl.heap.size (.slice A7 (xo.take (j + 1)).length c7)) (.slice A7 (xo.take (j + 1)).length c7) (xo.take (j + 1))) := hid (by
      rw [HTS.out]
      exact ds_next (N := w4.heap.size) EField.ok hown' HC4.out.size hk.size (fun k h => h) HR1.out.size (fun g hg => (HO.out.lt hg).2) hb)
     have HE3 := hid hk2
     have hlen5 : (ta ++ [y]).length = (xo.take (j + 1)).length := by rw [HTS.out]
     clear hown' hk hk2 hb HO hO4 hsrc HC4
     rw [hlen5]
     (try simp only [Act.put, sqa, sqb, sqc])
     go_wp2_with fail
     refine NoPanic.normal ?_
     go_wp2
     exact ⟨⟨j + 1, by omega, by go_num, HO3.out, HE3.out⟩, by simp [intOf]; omega⟩
    ·obtain rfl : j = xo.length := by omega
     rw [List.take_length] at *
     have HO := hid hown
     have HX := hid hx
     have HL := hid (HOL.out.ext EVal.ok hr)
     have hb1 := (HB1.out.keep HR0.out id).keep hr id
     have HY := hid hb1
     have x0 : wr.cell? ⟨w.heap.size, 0, none⟩ = some (U8 k) := hx.cell 0
     have x1 : wr.cell? ⟨w.heap.size, 1, none⟩ = some (.int .i64 n) := hx.cell 1
     have x2 : wr.cell? ⟨w.heap.size, 2, none⟩ = some (.string s) := hx.cell 2
     have x3 : wr.cell? ⟨w.heap.size, 3, none⟩ = some (.slice A1 xs.length c1) := hx.cell 3
     have z3 := hx.frozen 3
     have z4 := hx.frozen 4
     obtain ⟨y0, y1, y2, y3, y4⟩ := sq5 hb1
     obtain ⟨s0, s1, s2, s3, s4⟩ := sqf5 hb1
     clear hx hb1 hown hr H2 HOM HIH
     go_wp2
     change bodyPost _ _ _ _ _ (((((((wr.setCell ⟨w.heap.size, 3, none⟩ (.slice A3 xs.length c3)).setCell ⟨w.heap.size, 4, none⟩ (.slice A4 xo.length c4)).setCell ⟨w.heap.size + 1, 0, none⟩ (U8 k)).setCell ⟨w.heap.size + 1, 1, none⟩ (.int .i64 n)).setCell ⟨w.heap.size + 1, 2, none⟩ (.string s)).setCell ⟨w.heap.size + 1, 3, none⟩ (.slice A3 xs.length c3)).setCell ⟨w.heap.size + 1, 4, none⟩ (.slice A4 xo.length c4))
     obtain ⟨hB, hK⟩ := rcopy_fin (b0 := w.heap.size) (by omega) HY.out rfl (.slice A3 xs.length c3) (.slice A4 xo.length c4) (U8 k) (.int .i64 n) (.string s) (.slice A3 xs.length c3) (.slice A4 xo.length c4)
     generalize (((((((wr.setCell ⟨w.heap.size, 3, none⟩ (.slice A3 xs.length c3)).setCell ⟨w.heap.size, 4, none⟩ (.slice A4 xo.length c4)).setCell ⟨w.heap.size + 1, 0, none⟩ (U8 k)).setCell ⟨w.heap.size + 1, 1, none⟩ (.int .i64 n)).setCell ⟨w.heap.size + 1, 2, none⟩ (.string s)).setCell ⟨w.heap.size + 1, 3, none⟩ (.slice A3 xs.length c3)).setCell ⟨w.heap.size + 1, 4, none⟩ (.slice A4 xo.length c4)) = W at *
     clear x0 x1 x2 x3 x4 y0 y1 y2 y3 y4 z3 z4 s0 s1 s2 s3 s4
     have c0 := hB.cell 0
     have c1' := hB.cell 1
     have c2' := hB.cell 2
     have c3' := hB.cell 3
     have c4' := hB.cell 4
     simp at c0 c1' c2' c3' c4'
     have hz := HZ.out
     have hzl := HR0.out.size
     have hz1 := HR1.out.size
     have hzK := hK.size
     refine bodyPost_ret (v := .agg #[U8 k, .int .i64 n, .string s, .slice A3 xs.length c3, .slice A4 xo.length c4]) (by simp [results, Tryd.results11, go_sem, c0, c1', c2', c3', c4']) rfl ⟨_, _, rfl, ?_, ?_, ?_, ?_⟩
     ·exact (((HL.out.keep EVal.ok hK (fun q hq e => by have := hq.1; omega) fun g hg e => by have := (HL.out.lt hg).1; omega).more EVal.ok fun q _ hq => ⟨by have := hq.1; omega, by have := hq.2.1; omega, hq.2.2, fun e => by have := (HO.out.lt e).1; have := hq.2.1; omega⟩).less (by omega))
     ·exact (((HO.out.keep EField.ok hK (fun q hq e => by have := hq.1; omega) fun g hg e => by have := (HO.out.lt hg).1; omega).more EField.ok fun q _ hq => ⟨by have := hq.1; omega, by have := hq.2.1; omega, fun e => by have := (HOL.out.lt e).2; have := hq.1; omega, hq.2.2⟩).less (by omega))
     ·intro g hg hg2
      have := (HOL.out.lt hg).2
      have := (HO.out.lt hg2).1
      omega
     ·exact ((HE.out.ext HR0.out).ext HR1.out).trans hK fun q hq e => by omega
section
variable {P : Program} {α : Type} {E : El α} {w : World} {S : BS} {t T : TypeId} {A : Option Addr} {n c : Nat} {xs : List α} {bytes : Nat}
theorem elem_of (h : P.underlying t = some (.slice T)) : P.elem t = T := by unfold Program.elem; rw [h]
theorem size_of (ht : TyInfo P t T E.size bytes) (w : World) : (sizeOf T).run P w = .ok E.size w := by
 obtain ⟨i, z, hi, hz, hsize, hby, hzs⟩ := ht.info
 simp [sizeOf, typeInfo, hi, hsize]
theorem run_cut (ht : TyInfo P t T E.size bytes) (lo hi : Nat) {a b : Int} (ha : a = lo) (hb : b = hi) (h1 : lo ≤ hi) (h2 : hi ≤ c) (w : World) :
  (Instr.sliceAt t (.slice A n c) (some (.int .i64 a)) (some (.int .i64 b)) none).run P w = .ok (.slice (if c = lo then A else A.map (·.add (lo * E.size))) (hi - lo) (c - lo)) w := by
 subst ha hb
 have hu : P.underlying t = some (.slice (P.elem t)) := by rw [elem_of ht.under]; exact ht.under
 rw [run_sliceAt_slice (h := hu), run_slice_lh (ht := hu), elem_of ht.under, size_of ht]
 ·simp [Result.andThen, sliced]
 all_goals omega
theorem run_tail (ht : TyInfo P t T E.size bytes) (lo : Nat) {a : Int} (ha : a = lo) (h1 : lo ≤ n) (w : World) :
  (Instr.sliceAt t (.slice A n c) (some (.int .i64 a)) none none).run P w = .ok (.slice (if c = lo then A else A.map (·.add (lo * E.size))) (n - lo) (c - lo)) w := by
 subst ha
 have hu : P.underlying t = some (.slice (P.elem t)) := by rw [elem_of ht.under]; exact ht.under
 rw [run_sliceAt_slice (h := hu), run_slice_l (ht := hu), elem_of ht.under, size_of ht]
 ·simp [Result.andThen, sliced]
 all_goals omega
theorem run_front (ht : TyInfo P t T E.size bytes) (hi : Nat) {b : Int} (hb : b = hi) (h2 : hi ≤ c) (w : World) :
  (Instr.sliceAt t (.slice A n c) none (some (.int .i64 b)) none).run P w = .ok (.slice A hi c) w := by
 subst hb
 have hu : P.underlying t = some (.slice (P.elem t)) := by rw [elem_of ht.under]; exact ht.under
 rw [run_sliceAt_slice (h := hu), run_slice_h (ht := hu), elem_of ht.under, size_of ht]
 ·have e : (fun x : Addr => x.add 0) = id := by funext x; simp [Addr.add]
  simp [Result.andThen, sliced, e]
 all_goals omega
theorem cut_fact (hE : E.Ok) (ht : TyInfo P t T E.size bytes) (h : Sl E w S (.slice A n c) xs) {lo hi : Nat} {a b : Int} (ha : a = lo) (hb : b = hi) (h1 : lo ≤ hi) (h2 : hi ≤ xs.length) :
  ∃ A', (∀ w', (Instr.sliceAt t (.slice A n c) (some (.int .i64 a)) (some (.int .i64 b)) none).run P w' = .ok (.slice A' (hi - lo) (c - lo)) w') ∧ Sl E w S (.slice A' (hi - lo) (c - lo)) ((xs.take hi).drop lo) := by
 obtain ⟨A', c', e, hl, _⟩ := h.shape
 injection e with _ _ e3
 subst e3
 exact ⟨_, fun w' => run_cut ht lo hi ha hb h1 (by omega) w', h.cut hE h1 h2⟩
theorem tail_fact (hE : E.Ok) (ht : TyInfo P t T E.size bytes) (h : Sl E w S (.slice A n c) xs) {lo : Nat} {a : Int} (ha : a = lo) (h1 : lo ≤ xs.length) :
  ∃ A', (∀ w', (Instr.sliceAt t (.slice A n c) (some (.int .i64 a)) none none).run P w' = .ok (.slice A' (n - lo) (c - lo)) w') ∧ Sl E w S (.slice A' (n - lo) (c - lo)) (xs.drop lo) := by
 obtain ⟨A', c', e, hl, _⟩ := h.shape
 injection e with _ e2 e3
 subst e2 e3
 have := h.cut hE h1 (Nat.le_refl _)
 rw [List.take_length] at this
 exact ⟨_, fun w' => run_tail ht lo ha h1 w', this⟩
theorem front_fact (hE : E.Ok) (ht : TyInfo P t T E.size bytes) (h : Sl E w S (.slice A n c) xs) {hi : Nat} {b : Int} (hb : b = hi) (h1 : hi ≤ xs.length) :
  (∀ w', (Instr.sliceAt t (.slice A n c) none (some (.int .i64 b)) none).run P w' = .ok (.slice A hi c) w') ∧ Sl E w S (.slice A hi c) (xs.take hi) := by
 obtain ⟨A', c', e, hl, _⟩ := h.shape
 injection e with _ e2 e3
 subst e2 e3
 exact ⟨fun w' => run_front ht hi hb (by omega) w', h.front hE h1⟩
end
end Go.Proofs.YtggkidnlmaindaaDoor
