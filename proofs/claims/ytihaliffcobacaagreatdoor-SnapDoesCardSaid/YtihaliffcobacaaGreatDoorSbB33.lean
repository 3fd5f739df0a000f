/- FrameS, SnapD1, SnapD, SnapK0: laid together. -/
import Derived.Test.YtihaliffcobacaaGreatDoorSbB32
import Derived.Test.YtihaliffcobacaaGreatDoorSbB3
import Derived.Test.YtihaliffcobacaaGreatDoorSbB24
import Derived.Test.YtihaliffcobacaaGreatDoorSbB21
import Derived.Test.YtihaliffcobacaaGreatDoorSbB28
set_option linter.unusedSimpArgs false
set_option linter.unusedVariables false
set_option maxHeartbeats 25600000
set_option maxRecDepth 20000
namespace Go.Proofs.YtihaliffcobacaaGreatDoor
open Go.RowKit Go.Shelf
attribute [local go_sem] Oper.semAt_some
theorem callsOfF {P : Program} {f : FuncId} {fn : Func} {c : Code} {args : Array Value} {w : World} {R : Ending → World → Prop} (hf : P.funcs[f]? = some fn) (hb : fn.body = some c)
  (h : c.wpIn Fence.wide 5 P (bodyPostM Fence.wide 5 P fn R) { tmps := args ++ Array.replicate (fn.ntmps - args.size) undef, defers := [] } w) : Calls P f args w R := callsIn_wide.1 (callsIn_of_wp_marks hf hb trivial h rfl)
abbrev TB : Nat := 46
abbrev TBS : Nat := 74
theorem ty_bytes : TyInfo Tryz.prog TBS TB 1 24 := by
 obtain ⟨i, h1, h2, h3, h4⟩ := info_parts (show (Tryz.prog.info? TB).map (fun i => (i.zero, i.size, i.bytes)) = some (some (.slice none 0 0), 1, 24) from by kernel_rfl)
 exact ⟨Tryz.underlying74, i, _, h1, h2, h3, h4, rfl⟩
theorem wpListIn_own_append2 {F : Fence} {n : Nat} {P : Program} {α : Type} {E : El α} {S S2 : BS} {base : Nat} {t T : TypeId} {v y : Value} {xs ys : List α} {bytes : Nat} (w : World) {SR : BS} {ds : List Value} {ops : Array Oper} {rest : List Oper} {o : Oper} {a : Act} {Q : Exit → Act → World → Prop} (hgd : o.guard = none) (s x : Operand)
  (hE : E.Ok) (ht : TyInfo P t T E.size bytes) (ho : o.op = .call { callee := .builtin .append, args := #[s, x], argTypes := #[t, t] })
  (hs : a.eval s = v) (hx : a.eval x = y) (hown : Own E w base T S v xs) (hsr : RowS w SR E.size y ys.length ds) (hds : Cells E w S2 ds ys) (hg : ∀ g, v.ownBlock = some g → ¬ S g ∧ ¬ S2 g)
  (hbytes : (xs.length + ys.length) * bytes ≤ 140737488355328) (h63 : xs.length + ys.length ≤ maxLen) (hbase : base ≤ w.heap.size)
  (h : ∀ v' w', Own E w' base T (fun k => S k ∨ S2 k) v' (xs ++ ys) → Keep (fun k => v.ownBlock = some k) w w' → (v'.ownBlock = v.ownBlock ∨ v'.ownBlock = some w.heap.size) → w.grownBy w' v.ownBlock → wpListIn F n P ops Q rest (a.put o.dst v') w') : wpListIn F n P ops Q (o :: rest) a w := by
 obtain ⟨v', w', hrun, h1, h2, h3⟩ := own_append2 (P := P) (w := w) hE ht o.type hown hsr hds hg h63 hbytes hbase
 refine wpListIn_plain hgd fun K hK => ?_
 unfold Oper.wpIn
 refine ⟨?_, ?_⟩
 ·simp [Oper.about, ho, resolve, Target.leads, Sem.run_pure]
 ·rw [Oper.semAt_plain F _ _ (by rw [ho]; intro c hc'; cases hc')]
  simp [execOp, ho, resolve, invoke, builtin, hs, hx, hrun, Result.andThen]
  exact hK _ _ (h v' w' h1 ((Keep.refl _ _).grown h2 (fun k e _ => e)) h3 h2)
theorem BytesS.keep' {F : Nat → Prop} {w w' : World} {S : BS} {v : Value} {l : List UInt8} (h : BytesS w S v l) (hk : Keep F w w') (hF : ∀ k, S k → ¬ F k) : BytesS w' S v l := Sl.keep EU8.ok h hk hF
theorem each_ok (A : Option Addr) (n c : Nat) (w : World) :
  Calls Tryz.prog 62 #[.slice A n c] w fun e w' => e = .returned (.func (.func 83) #[] #[.pointer (some ⟨w.heap.size, 0, none⟩)]) ∧ w' = w.alloc (.cells #[.slice A n c] TB) := by
 go_enter Tryz.func62, Tryz.ntmps62
 go_wp2
 go_ret
 exact ⟨rfl, rfl⟩
def lastP (pre : List Fr) : Nat := (pre.map Fr.p).getLastD 0
def Coll (w : World) (B nb : Nat) (pre : List Fr) (W : World) : Prop :=
 ∃ (v : Value) (S : BS), Blk W nb TBS #[v] ∧ Blk W (nb + 1) 3 #[.int .i64 (lastP pre : Int)] ∧ Own EBytes W B TB S v (pre.map Fr.x) ∧ (∀ k, S k → B ≤ k ∧ v.ownBlock ≠ some k) ∧ Ext w W
theorem Coll.ext {w : World} {B nb : Nat} {pre : List Fr} {W W' : World} (h : Coll w B nb pre W) (hE : Ext W W') : Coll w B nb pre W' := by
 obtain ⟨v, S, h1, h2, h3, h4, h5⟩ := h
 exact ⟨v, S, h1.keep hE id, h2.keep hE id, h3.ext EBytes.ok hE, h4, h5.ext hE⟩
theorem Coll.put {w : World} {B nb : Nat} {pre : List Fr} {W : World} (h : Coll w B nb pre W) {l : Nat} (o' : Obj) (hw : w.heap.size ≤ nb) (hl : nb + 1 < l) (hlB : l < B) : Coll w B nb pre (W.putObj l o') := by
 obtain ⟨v, S, h1, h2, h3, h4, h5⟩ := h
 have hk : Keep (· = l) W (W.putObj l o') := Keep.grown (Keep.refl _ _) (grownBy_putObj' W l o') fun k e _ => by cases e; rfl
 exact ⟨v, S, h1.keep hk (by omega), h2.keep hk (by omega), h3.keep EBytes.ok hk (fun k hs e => by have := (h4 k hs).1; omega) (fun g hg e => by have := (h3.lt hg).1; omega), h4, h5.trans hk fun k hk e => by omega⟩
theorem Own.blk {α : Type} {E : El α} {w : World} {base : Nat} {T : TypeId} {S : BS} {v : Value} {xs : List α} (h : Own E w base T S v xs) {g : Nat} (hg : v.ownBlock = some g) : ∃ cs, Blk w g T cs := by
 rcases h with ⟨rfl, _⟩ | ⟨g', cap, cur, rfl, _, hb, _⟩
 ·cases hg
 ·injection hg with hg; subst hg; exact ⟨_, hb⟩
theorem lastP_snoc (pre : List Fr) (f : Fr) : lastP (pre ++ [f]) = f.p := by simp [lastP]
set_option maxRecDepth 100000 in
theorem scan_any (v : Value) (b : List UInt8) (S : BS) (w : World) (hv : BytesS w S v b) (hbl : b.length ≤ 2000000) :
  Calls Tryz.prog 30 #[v] w fun e w' => ∃ v', e = .returned (.tuple #[v', .int .i64 ((scanL b).2 : Int)]) ∧ Sl EBytes w' (fun k => w.heap.size ≤ k) v' (scanL b).1 ∧ Ext w w' := by
 obtain ⟨A, c, rfl, hlc, hcm⟩ := hv.shape
 unfold maxLen at hcm
 have HV := hid hv
 clear hv
 refine callsOfF Tryz.func30 rfl ?_
 simp only [Tryz.ntmps30, List.size_toArray, List.length_cons, List.length_nil, Nat.reduceAdd, Nat.reduceSub, Array.replicate_succ, Array.replicate_zero, List.push_toArray, List.append_toArray, List.nil_append, List.cons_append]
 gi_wp2_with fail
 refine ⟨trivial, (callsIn_wide.2 (each_ok _ _ _ _)).mono ?_⟩
 rintro e w' ⟨rfl, rfl⟩
 gi_wp2_with fail
 obtain ⟨W0, hW0⟩ : ∃ W0, ((w.alloc (.cells #[.slice none 0 0] TBS)).alloc (.cells #[.int .i64 0] 3)).alloc (.cells #[.slice A b.length c] TB) = W0 := ⟨_, rfl⟩
 have hE0 : Ext w W0 := by rw [← hW0]; exact (((Keep.refl _ _).alloc _).alloc _).alloc _
 have hsz : W0.heap.size = w.heap.size + 3 := by rw [← hW0]; simp
 have hb0 : Blk W0 w.heap.size TBS #[.slice none 0 0] := by rw [← hW0]; exact ((Blk.new w TBS _).alloc _).alloc _
 have hb1 : Blk W0 (w.heap.size + 1) 3 #[.int .i64 0] := by
  have := (Blk.new (w.alloc (.cells #[.slice none 0 0] TBS)) 3 #[.int .i64 0]).alloc (.cells #[.slice A b.length c] TB)
  rw [World.size_alloc] at this
  rw [← hW0]; exact this
 have hb2 : Blk W0 (w.heap.size + 1 + 1) TB #[.slice A b.length c] := by
  have := Blk.new ((w.alloc (.cells #[.slice none 0 0] TBS)).alloc (.cells #[.int .i64 0] 3)) TB #[.slice A b.length c]
  rw [World.size_alloc, World.size_alloc] at this
  rw [← hW0]; exact this
 simp only [hW0]
 have HSZ := hid hsz
 have hseq := each_all 4 (w.heap.size + 1 + 1) W0 (fun k => S k ∧ k < w.heap.size) _ b (by omega) hb2 ((HV.out.more (S' := fun k => S k ∧ k < w.heap.size) EU8.ok fun k h1 h2 => ⟨h2, h1⟩).ext EU8.ok hE0) (fun k h => by omega)
 have h0 : Coll w (W0.heap.size + 2) w.heap.size [] W0 := ⟨_, fun _ => False, hb0, hb1, Own.nil _ _ _ _, fun _ h => h.elim, hE0⟩
 clear hW0 hE0 hb0 hb1 hb2 HV
 refine wpIn_range_new rfl (by omega) (gf := 83) (lb := #[.pointer (some ⟨w.heap.size + 1 + 1, 0, none⟩)]) rfl trivial (enters_of Tryz.func83 (by kernel_rfl) rfl) hseq (fun h k => h.trans k fun _ _ h => h) ?kb (fun _ => rfl)
  (Coll w (W0.heap.size + 2) w.heap.size) (fun s A B h hE => h.ext hE) (fun s W o' h hl => h.put o' (Nat.le_refl _) (by omega) (by omega)) h0 ?fo
  (fun f => { tmps := #[.slice A b.length c, undef, .slice none 0 0, .int .i64 0, .pointer (some ⟨w.heap.size, 0, none⟩), .pointer (some ⟨w.heap.size + 1, 0, none⟩), .int .i64 (f.p : Int), f.v, .slice A b.length c, .func (.func 83) #[] #[.pointer (some ⟨w.heap.size + 1 + 1, 0, none⟩)], .int .i64 (f.p : Int), f.v, undef, undef, undef, undef, undef, undef, undef], defers := [] })
  ?assign ?body ?done
 case kb => exact fun W o' hl => Keep.grown (Keep.refl _ _) (grownBy_putObj' W _ o') fun k e _ => by cases e; exact ⟨by omega, fun h => by omega⟩
 case fo =>
  intro x Wp W o' hx hl
  exact BytesS.keep' hx (Keep.grown (F := (· = W0.heap.size + 1)) (Keep.refl _ _) (grownBy_putObj' W _ o') fun k e _ => by cases e; rfl) fun k hk e => by omega
 case assign =>
  rintro l f W K hK
  simp only [Fr.enc, Fr.v] at hK ⊢
  gi_wp2
  exact hK
 case body =>
  rintro l pre f Wp W ⟨v, S2, h1, h2, h3, h4, h5⟩ hlt hk hm hlen
  have g1 := h1.keep hk (by omega)
  have g2 := h2.keep hk (by omega)
  have g3 := h3.keep EBytes.ok hk (fun k hs e => by have := (h4 k hs).1; omega) (fun g hg e => by have := (h3.lt hg).1; omega)
  obtain ⟨Av, cv, rfl, _, _⟩ := h3.shape
  rw [List.length_map] at g1 g3 h4 h3
  have q0 := g1.cell 0
  have q1 := g2.cell 0
  have f1 := g2.frozen 0
  simp at q0 q1
  have G1 := hid g1
  have G2 := hid g2
  have G3 := hid g3
  have H4 := hid h4
  have HK := hid hk
  have HM := hid hm
  have H5 := hid h5
  have HSZW := hid hk.size
  have HLTG := hid (fun g (e : (Value.slice Av pre.length cv).ownBlock = some g) => h3.lt e)
  clear h1 h2 h3 h4 h5 hk hm g1 g2 g3 h0 hseq
  obtain ⟨W1, hW1⟩ : ∃ W1, (W.setCell ⟨w.heap.size + 1, 0, none⟩ (.int .i64 (f.p : Int))).alloc (.cells #[f.v] TB) = W1 := ⟨_, rfl⟩
  have hz1 : (W.setCell ⟨w.heap.size + 1, 0, none⟩ (.int .i64 (f.p : Int))).heap.size = W.heap.size := by simp
  have hks : Keep (· = w.heap.size + 1) W (W.setCell ⟨w.heap.size + 1, 0, none⟩ (.int .i64 (f.p : Int))) := (Keep.refl _ _).set1 0 _
  have hk1 : Keep (· = w.heap.size + 1) W W1 := by rw [← hW1]; exact hks.alloc _
  have hrow : RowS W1 (fun k => k = W.heap.size) 1 (.slice (some ⟨W.heap.size, 0, none⟩) 1 1) 1 [f.v] := by
   have := RowS.new (w := W.setCell ⟨w.heap.size + 1, 0, none⟩ (.int .i64 (f.p : Int))) (t := TB) (sz := 1) (cs := [f.v]) (n := 1) rfl (by simp [maxLen])
   rw [hz1] at this
   rw [← hW1]; exact this
  have hzw := HSZW.out
  have hz3 := HSZ.out
  have hm1 : BytesS W1 (fun k => Wp.heap.size ≤ k) f.v f.x := BytesS.keep' HM.out hk1 fun k hk e => by omega
  have ho1 : Own EBytes W1 (W0.heap.size + 2) TB S2 (.slice Av pre.length cv) (pre.map Fr.x) := G3.out.keep EBytes.ok hk1 (fun k hs e => by have := (H4.out k hs).1; omega) (fun g hg e => by have := (HLTG.out g hg).1; omega)
  have hbx : Blk W1 (w.heap.size + 1) 3 #[.int .i64 (f.p : Int)] := by rw [← hW1]; exact (G2.out.set_ 0 _).alloc _
  have hb0 : Blk W1 w.heap.size TBS #[.slice Av pre.length cv] := G1.out.keep hk1 (by omega)
  have hz4 := hk1.size
  have hfl := framesL_length b.length 0 b (Nat.le_refl _)
  have hzz : W1.heap.size = W.heap.size + 1 := by rw [← hW1]; simp
  have hm2 := hm1.more (S' := fun k => Wp.heap.size ≤ k ∧ k < W1.heap.size) EU8.ok fun k h1 h2 => ⟨h2, h1⟩
  have ho2 := ho1.more (S' := fun k => S2 k ∧ k < W1.heap.size) EBytes.ok fun k h1 h2 => ⟨h2, h1⟩
  have HZZ := hid hzz
  have HW1 := hid hW1
  clear hW1 hks hz3 hsz hm1 ho1 hzz
  gi_wp2_with (gi_at_builtin; refine wpListIn_own_append2 (P := Tryz.prog) (E := EBytes) (v := .slice Av pre.length cv) (xs := pre.map Fr.x) (ys := [f.x]) _ rfl (.tmp 13) (.tmp 15) EBytes.ok ty_bytes rfl rfl rfl (HW1.out ▸ ho2) (HW1.out ▸ hrow) (Cells.single ⟨_, rfl, HW1.out ▸ hm2⟩) ?f1 ?f2 ?f3 ?f4 ?_)
  case f1 => exact fun g hg => ⟨fun h => (H4.out g h.1).2 hg, fun h => by have := (HLTG.out g hg).2; have := h.1; omega⟩
  case f2 => rw [List.length_map]; simp only [List.length_singleton]; omega
  case f3 => rw [List.length_map]; simp only [List.length_singleton, maxLen]; omega
  case f4 => simp; omega
  intro v2 w2 hown2 hk2 hb2 _
  rw [HW1.out] at hk2
  obtain ⟨A2, c2, rfl, _⟩ := hown2.shape
  have hb3 : Blk w2 w.heap.size TBS #[.slice Av pre.length cv] := hb0.keep hk2 (fun e => by have := (HLTG.out _ e).1; have := HSZ.out; omega)
  have hx3 : Blk w2 (w.heap.size + 1) 3 #[.int .i64 (f.p : Int)] := hbx.keep hk2 (fun e => by have := (HLTG.out _ e).1; have := HSZ.out; omega)
  have s0 := hb3.cell 0
  have s1 := hb3.frozen 0
  simp at s0
  have HO2 := hid hown2
  have HK2 := hid hk2
  have HB2 := hid hb2
  have HX3 := hid hx3
  have HB3 := hid hb3
  clear hown2 hk2 hb2 hx3 hb3 hrow hm2 ho2 hbx hb0 hk1 hz1 q0 q1 f1
  gi_wp2
  have hl2 : (pre.map Fr.x ++ [f.x]).length = pre.length + 1 := by simp
  have hb2 := HB2.out
  have ho := HO2.out
  rw [hl2] at ho hb2
  have hz := HSZ.out
  have hzz := HZZ.out
  have hg2 : ∀ g, (Value.slice A2 (pre.length + 1) c2).ownBlock = some g → W0.heap.size + 2 ≤ g := fun g e => (ho.lt e).1
  have hk3 : Keep (· = w.heap.size) w2 (w2.setCell ⟨w.heap.size, 0, none⟩ (.slice A2 (pre.length + 1) c2)) := (Keep.refl _ _).set1 0 _
  have hkW : Keep (fun k => k = w.heap.size ∨ k = w.heap.size + 1 ∨ (Value.slice Av pre.length cv).ownBlock = some k) W (w2.setCell ⟨w.heap.size, 0, none⟩ (.slice A2 (pre.length + 1) c2)) := by
   have hk1 : Keep (· = w.heap.size + 1) W W1 := by rw [← HW1.out]; exact ((Keep.refl _ _).set1 0 _).alloc _
   exact ((hk1.mono (G := fun k => k = w.heap.size ∨ k = w.heap.size + 1 ∨ (Value.slice Av pre.length cv).ownBlock = some k) fun _ _ h => .inr (.inl h)).trans HK2.out fun _ _ h => .inr (.inr h)).trans hk3 fun _ _ h => .inl h
  refine ⟨⟨hkW.size, fun k o hB ho' hc => (hkW.block k (Array.getElem?_eq_some_iff.1 ho').1 ?_).trans ho'⟩, hkW.mono fun k hk h => ?_, .slice A2 (pre.length + 1) c2, fun k => (S2 k ∧ k < W.heap.size + 1) ∨ (Wp.heap.size ≤ k ∧ k < W.heap.size + 1), HB3.out.set_ 0 _, ?_, ?_, ?_, ?_⟩
  ·rintro (h | h | h)
   ·omega
   ·omega
   ·obtain ⟨cs, hcs⟩ := G3.out.blk h
    unfold Blk at hcs
    rw [hcs] at ho'; cases ho'; cases hc
  ·rcases h with h | h | h
   ·omega
   ·omega
   ·have := (HLTG.out k h).1; omega
  ·rw [lastP_snoc]; exact HX3.out.keep hk3 (by omega)
  ·rw [List.map_append]
   exact ho.keep EBytes.ok hk3 (fun k hk e => by
    rcases hk with hk | hk
    ·have := (H4.out k hk.1).1; omega
    ·have := hk.1; omega) (fun g hg e => by have := hg2 g hg; omega)
  ·intro k hk
   refine ⟨?_, fun e => ?_⟩
   ·rcases hk with hk | hk
    ·exact (H4.out k hk.1).1
    ·have := hk.1; omega
   ·rcases hb2 with h | h
    ·rw [h] at e
     rcases hk with hk | hk
     ·exact (H4.out k hk.1).2 e
     ·have := (HLTG.out k e).2; have := hk.1; omega
    ·rw [h] at e; injection e with e
     rcases hk with hk | hk
     ·have := hk.2; omega
     ·have := hk.2; omega
  ·exact ((H5.out.trans HK.out fun k hk e => by omega).trans hkW fun k hk h => by
    rcases h with h | h | h
    ·omega
    ·omega
    ·have := (HLTG.out k h).1; omega)
 case done =>
  rintro xs W hxs ⟨v, S2, h1, h2, h3, h4, h5⟩ hD
  obtain ⟨Av, cv, rfl, _, _⟩ := h3.shape
  rw [List.length_map] at h1 h3 h4
  have q0 := h1.cell 0
  have q1 := h2.cell 0
  simp at q0 q1
  have hsc := scan_frames b.length 0 b (Nat.le_refl _)
  have hx1 : xs.map Fr.x = (scanL b).1 := by rw [← hsc.1, ← hxs, List.map_map]; rfl
  have hx2 : lastP xs = (scanL b).2 := by
   have : lastP xs = 0 + (scanL b).2 := by rw [← hsc.2, ← hxs, List.map_map]; rfl
   omega
  rw [hx1] at h3
  rw [hx2] at q1
  have H3 := hid h3
  have H4 := hid h4
  have H5 := hid h5
  have HDD := hid hD
  clear h1 h2 h3 h4 h5 hD hseq h0 hxs hsc hx1 hx2
  gi_wp2_with fail
  refine wpIn_wide.2 ?_
  refine wp_region_grow (specOf []) (fun w' => Ext W w') stable_nil (stableC_ext _) (by kernel_rfl) (by kernel_rfl) (Keep.drew (Keep.refl _ _)) ?_
  iterate 4
   (try simp only [Act.put, sqa, sqb, sqc])
   refine grow_run rfl rfl rfl ?_
   apply Exists.intro
   refine ⟨fun w' hC hK => ?_, ?_⟩
   ·have q0 := sqw hC q0
    have q1 := sqw hC q1
    go_simp
    rfl
  refine grow_nil fun w2 hC _ => ?_
  have hC : Ext W w2 := hC
  have hK := (hC.block _ (Array.getElem?_eq_some_iff.1 HDD.out).1 id).trans HDD.out
  have hp : Keep (· = W0.heap.size) w2 (w2.putObj W0.heap.size (.deferred none)) := Keep.grown (Keep.refl _ _) (grownBy_putObj' w2 _ _) fun k e _ => by cases e; rfl
  have hr := ((H3.out.ext EBytes.ok hC).keep EBytes.ok hp (fun k hk e => by have := (H4.out k hk).1; omega) (fun g hg e => by have := (H3.out.lt hg).1; omega)).sl EBytes.ok
  have hr2 := hr.more (S' := fun k => w.heap.size ≤ k) EBytes.ok fun k _ h => by
   rcases h with h | h
   ·have := (H4.out k h).1; omega
   ·have := (H3.out.lt h).1; omega
  have HR := hid hr2
  have HEND := hid ((H5.out.ext hC).trans hp fun k hk e => by omega)
  clear hr hr2 hp hC q0 q1
  gi_wp2
  refine ⟨by simp, .inl ⟨_, _, rfl, run_takeDeferred hK, ?_⟩⟩
  refine ⟨.tuple #[.slice Av xs.length cv, .int .i64 ((scanL b).2 : Int)], ?_, _, rfl, HR.out, HEND.out⟩
  first | exact results_two rfl _ _ _ _ | simp [results, Tryz.results30, Act.put, go_sem]
end Go.Proofs.YtihaliffcobacaaGreatDoor
namespace Go.Proofs.YtihaliffcobacaaGreatDoor
open Go.RowKit Go.Shelf
attribute [local go_sem] Oper.semAt_some
theorem back0_ok (A : Option Addr) (n c : Nat) (w : World) :
  Calls Tryz.prog 31 #[.slice A n c] w fun e w' => e = .returned (.func (.func 63) #[] #[.pointer (some ⟨w.heap.size, 0, none⟩)]) ∧ w' = w.alloc (.cells #[.slice A n c] TBS) := by
 go_enter Tryz.func31, Tryz.ntmps31
 go_wp2
 go_ret
 exact ⟨rfl, rfl⟩
set_option maxRecDepth 100000 in
theorem back1_one (m vb : Nat) (w : World) (S : BS) (v : Value) (ls : List (List UInt8)) (x : List UInt8) (hm : 1 ≤ m) (hvb : Blk w vb TBS #[v]) (hv : Sl EBytes w S v (ls ++ [x])) :
  ∃ A c, BytesS w S (.slice A x.length c) x ∧ SeqOne Fence.wide m Tryz.prog 63 #[.pointer (some ⟨vb, 0, none⟩)] #[.int .i64 ls.length, .slice A x.length c] w := by
 obtain ⟨A, c, rfl, hlc, hcm⟩ := hv.shape
 have hkl : ls.length < (ls ++ [x]).length := by rw [List.length_append]; simp
 obtain ⟨b, off, c0, rfl, hb, hsz, ⟨u, rfl, hu⟩, hc⟩ := hv.at_ EBytes.ok hkl
 have hxl : (ls ++ [x])[ls.length]'hkl = x := by simp
 rw [hxl] at hu
 obtain ⟨A1, c1, rfl, _⟩ := hu.shape
 have e1 : EBytes.size = 1 := rfl
 have hcell := hc 0 _ (by rfl)
 simp only [e1, Nat.mul_one, Nat.add_zero] at hcell
 refine ⟨A1, c1, hu, ?_⟩
 have hcm2 : ls.length + 1 ≤ maxLen := by rw [List.length_append] at hlc; exact Nat.le_trans hlc hcm
 obtain ⟨n, hn⟩ : ∃ n, ls.length = n := ⟨_, rfl⟩
 rw [show (ls ++ [x]).length = n + 1 from by rw [List.length_append, hn]; rfl] at *
 rw [hn] at hcell hcm2 ⊢
 clear hv hc hu hxl hkl hn
 intro l W R hW hY
 have hbk := hvb.keep hW id
 have q0 : W.cell? ⟨vb, 0, none⟩ = some (.slice (some ⟨b, off, none⟩) (n + 1) c) := hbk.cell 0
 have q1 := (hW.cell hsz id).trans hcell
 have HY := hid hY
 clear hvb hbk hY hcell hW
 have hnX : (0 : Int) ≤ (n : Int) := by omega
 have hwr : wrap64 (n : Int) = (n : Int) := by unfold wrap64; unfold maxLen at hcm2; omega
 refine callsIn_of_wp Tryz.func63 rfl trivial ?_ rfl
 simp only [Tryz.ntmps63, List.size_toArray, List.length_cons, List.length_nil, Nat.reduceAdd, Nat.reduceSub, Array.replicate_succ, Array.replicate_zero, List.push_toArray, List.append_toArray, List.nil_append, List.cons_append]
 gi_wp2_with fail
 gi_loopw [3] (fun i wr => i = .int .i64 (n : Int) ∧ wr = W) (fun _ _ => 0)
 case atStart => exact ⟨congrArg _ hwr, rfl⟩
 case round =>
  obtain ⟨rfl, rfl⟩ := hrel
  obtain ⟨fn, tmps, assign, body, hy, hR⟩ := HY.out _ (Keep.refl _ _)
  have HR := hid hR
  clear hR
  gi_wp2_with fail
  refine HR.out.mono ?_
  rintro e W' ⟨rfl, hJ⟩
  have HJ := hid hJ
  clear hJ hy HR q0 q1
  gi_wp2
  refine bodyPost_ret (v := .tuple #[]) (by simp [results, Tryz.results63, go_sem]) rfl ⟨⟨_, rfl⟩, HJ.out⟩
set_option maxRecDepth 100000 in
theorem back1_no (m vb : Nat) (w : World) (A : Option Addr) (c : Nat) (hvb : Blk w vb TBS #[.slice A 0 c]) : SeqNo Fence.wide m Tryz.prog 63 #[.pointer (some ⟨vb, 0, none⟩)] w := by
 intro l W hW
 have hbk := hvb.keep hW id
 have q0 : W.cell? ⟨vb, 0, none⟩ = some (.slice A 0 c) := hbk.cell 0
 clear hvb hbk hW
 refine callsIn_of_wp Tryz.func63 rfl trivial ?_ rfl
 simp only [Tryz.ntmps63, List.size_toArray, List.length_cons, List.length_nil, Nat.reduceAdd, Nat.reduceSub, Array.replicate_succ, Array.replicate_zero, List.push_toArray, List.append_toArray, List.nil_append, List.cons_append]
 gi_wp2_with fail
 gi_loopw [3] (fun i wr => i = .int .i64 (-1) ∧ wr = W) (fun _ _ => 0)
 case atStart => exact ⟨rfl, rfl⟩
 case round =>
  obtain ⟨rfl, rfl⟩ := hrel
  gi_wp2
  go_end0
  exact ⟨⟨_, rfl⟩, Keep.refl _ _⟩
end Go.Proofs.YtihaliffcobacaaGreatDoor
namespace Go.Proofs.YtihaliffcobacaaGreatDoor
open Go.RowKit Go.Shelf
attribute [local go_sem] Oper.semAt_some
def ResIs (W0 : World) (r0 : Nat) (sh : Sh) (W : World) : Prop := ∃ a0 a1 a2 a3 a4, Blk W r0 TSHOT #[.int .i64 sh.n, .bool sh.there, a0, a1, a2, a3, a4] ∧ Blk W (r0 + 1) 4 #[.bool true] ∧ VAt W (fun q => W0.heap.size + 1 < q) (.agg #[a0, a1, a2, a3, a4]) sh.v ∧ Keep (fun q => q = r0 ∨ q = r0 + 1) W0 W
theorem ResIs.put {W0 : World} {r0 : Nat} {sh : Sh} {W : World} (h : ResIs W0 r0 sh W) (hr : r0 + 1 < W0.heap.size) {k : Nat} (hk : k = W0.heap.size ∨ k = W0.heap.size + 1) (o' : Obj) : ResIs W0 r0 sh (W.putObj k o') := by
 obtain ⟨a0, a1, a2, a3, a4, h1, h2, h3, h4⟩ := h
 have hp : Keep (· = k) W (W.putObj k o') := Keep.grown (Keep.refl _ _) (grownBy_putObj' W k o') fun j e _ => by cases e; rfl
 exact ⟨a0, a1, a2, a3, a4, h1.keep hp (by omega), h2.keep hp (by omega), h3.keep hp fun q hq e => by omega, h4.trans hp fun q hq e => by omega⟩
set_option maxRecDepth 100000 in
theorem load_some (w0 : World) (hva : ValAny w0) (w : World) (h0 : Ext w0 w) (B : BS) (d : Nat) (cs : List DC) (st : DSt) (nm : ByteArray) (hd : DiskIs w B d cs st) (hz : nm.size ≤ 140737488355328) (ls : List (List UInt8)) (sh : Sh) (hs : ShOk sh) (hwi : Wide sh.v)
  (hbl : (readR cs (byt (fileT nm))).2.length ≤ 2000000) (hsc : (scanL (readR cs (byt (fileT nm))).2).1 = ls ++ [shB sh]) :
  Calls Tryz.prog 12 #[.pointer (some ⟨d, 0, none⟩), .string nm] w (ReadSIs w sh) := by
 have hadd : ∀ w' : World, (Op.stringOp .add nm snapT).run Tryz.prog w' = .ok (.string (fileT nm)) w' := fun w' => run_string_add_sum w' _ _ (by show nm.size + 5 ≤ _; omega)
 have hszX : ¬ 9223372036854775807 < nm.size + 5 := by omega
 have HD := hid hd
 have HS := hid hs
 have HWI := hid hwi
 have HVA := hid hva
 have H0 := hid h0
 have HBL := hid hbl
 have HSC := hid hsc
 have HZF := hid (show (fileT nm).size ≤ maxLen from by unfold fileT maxLen; rw [ByteArray.size_append]; show nm.size + 5 ≤ _; omega)
 clear hd hs hwi hva h0 hbl hsc hz
 refine callsOfF Tryz.func12 rfl ?_
 simp only [Tryz.ntmps12, List.size_toArray, List.length_cons, List.length_nil, Nat.reduceAdd, Nat.reduceSub, Array.replicate_succ, Array.replicate_zero, List.push_toArray, List.append_toArray, List.nil_append, List.cons_append]
 gi_wp2_with fail
 obtain ⟨W0, hW0⟩ : ∃ W0, (w.alloc (.cells #[.int .i64 0, .bool false, .int .u8 0, .int .i64 0, .string ⟨#[]⟩, .slice none 0 0, .slice none 0 0] TSHOT)).alloc (.cells #[.bool false] 4) = W0 := ⟨_, rfl⟩
 have hE0 : Ext w W0 := by rw [← hW0]; exact ((Keep.refl _ _).alloc _).alloc _
 have hb0 : Blk W0 w.heap.size TSHOT #[.int .i64 0, .bool false, .int .u8 0, .int .i64 0, .string ⟨#[]⟩, .slice none 0 0, .slice none 0 0] := by rw [← hW0]; exact (Blk.new _ _ _).alloc _
 have hb1 : Blk W0 (w.heap.size + 1) 4 #[.bool false] := by
  have := Blk.new (w.alloc (.cells #[.int .i64 0, .bool false, .int .u8 0, .int .i64 0, .string ⟨#[]⟩, .slice none 0 0, .slice none 0 0] TSHOT)) 4 #[.bool false]
  rw [World.size_alloc] at this
  rw [← hW0]; exact this
 rw [show (w.alloc (.cells #[.int .i64 0, .bool false, .int .u8 0, .int .i64 0, .string ⟨#[]⟩, .slice none 0 0, .slice none 0 0] 35)).alloc (.cells #[.bool false] 4) = W0 from hW0]
 clear hW0
 refine ⟨trivial, (callsIn_wide.2 (disk_read W0 B d cs st (fileT nm) (HD.out.ext hE0) HZF.out)).mono ?_⟩
 rintro e w1 ⟨A1, c1, rfl, hx, hk⟩
 have HB0 := hid (hb0.keep hk id)
 have HB1 := hid (hb1.keep hk id)
 have HE1 := hid (hE0.ext hk)
 have HBY := hid hx
 clear hE0 hb0 hb1 hx hk
 gi_wp2_with fail
 refine ⟨trivial, (callsIn_wide.2 (scan_any _ _ _ w1 HBY.out HBL.out)).mono ?_⟩
 rintro e w2 ⟨v2, rfl, hrow, hE2⟩
 have HE2 := hid (HE1.out.ext hE2)
 replace HB0 := hid (HB0.out.keep hE2 id)
 replace HB1 := hid (HB1.out.keep hE2 id)
 rw [show (scanL (readR cs (byt (fileT nm))).2).1 = ls ++ [shB sh] from HSC.out] at hrow
 obtain ⟨A2, c2, rfl, hlc2, _⟩ := hrow.shape
 have HROW := hid hrow
 clear hrow hE2 HE1
 gi_wp2_with fail
 refine ⟨trivial, (callsIn_wide.2 (back0_ok A2 _ c2 w2)).mono ?_⟩
 rintro e w3 ⟨rfl, hw3⟩
 have hE3 : Ext w2 w3 := by rw [hw3]; exact (Keep.refl _ _).alloc _
 have hb2 : Blk w3 w2.heap.size TBS #[.slice A2 (ls ++ [shB sh]).length c2] := by rw [hw3, show (ls ++ [shB sh]).length = ls.length + 1 from by simp]; exact Blk.new _ _ _
 obtain ⟨A, c, hu, hseq⟩ := back1_one 4 w2.heap.size w3 _ _ ls (shB sh) (by omega) hb2 (HROW.out.ext EBytes.ok hE3)
 have HU := hid hu
 have HE3 := hid (HE2.out.ext hE3)
 replace HB0 := hid (HB0.out.keep hE3 id)
 replace HB1 := hid (HB1.out.keep hE3 id)
 clear hw3 hb2 hu hE3 HE2 HROW HBY
 gi_wp2_with fail
 have hlt0 := HB1.out.lt
 refine wpIn_range_ret rfl (by omega) (gf := 63) (lb := #[.pointer (some ⟨w2.heap.size, 0, none⟩)]) rfl trivial (enters_of Tryz.func63 (by kernel_rfl) rfl) hseq rfl
  (ResIs w3 w.heap.size sh) (fun W o' h _ => h.put hlt0 (.inr rfl) o') ?a1 ?assign ?body ?done
 case assign =>
  intro l W K hK
  gi_wp2
  exact hK
 case body =>
  intro l W hE hlt
  have HEW := hid hE
  have HSZW := hid hE.size
  have HBR0 := hid (HB0.out.keep hE id)
  have HBR1 := hid (HB1.out.keep hE id)
  clear hE hseq
  gi_wp2_with fail
  refine ⟨trivial, (callsIn_round (reads_ok w0 HVA.out sh HS.out HWI.out W (H0.out.ext (HE3.out.ext HEW.out)) _ _ (HU.out.ext EU8.ok HEW.out))).mono ?_⟩
  rintro e w4 ⟨u, rfl, ⟨a0, a1, a2, a3, a4, rfl, lv, ov, e1, hl, ho⟩, hE4⟩
  simp only [Value.agg.injEq, Array.mk.injEq, List.cons.injEq, and_true] at e1
  obtain ⟨rfl, rfl, rfl, rfl, rfl⟩ := e1
  obtain ⟨A4, c4, rfl, _⟩ := hl.shape
  obtain ⟨A5, c5, rfl, _⟩ := ho.shape
  have HV4 := hid (show VAt w4 (fun q => W.heap.size ≤ q) (.agg #[U8 sh.v.kind, .int .i64 sh.v.n, .string sh.v.s, .slice A4 sh.v.l.length c4, .slice A5 sh.v.o.length c5]) sh.v from ⟨_, _, rfl, hl, ho⟩)
  replace HBR0 := hid (HBR0.out.keep hE4 id)
  replace HBR1 := hid (HBR1.out.keep hE4 id)
  have HE4 := hid hE4
  obtain ⟨r0, r1, r2, r3, r4, r5, r6⟩ : (∀ o, (w4.alloc o).cell? ⟨w.heap.size, 0, none⟩ = some (.int .i64 0)) ∧ (∀ o, (w4.alloc o).cell? ⟨w.heap.size, 1, none⟩ = some (.bool false)) ∧ (∀ o, (w4.alloc o).cell? ⟨w.heap.size, 2, none⟩ = some (.int .u8 0)) ∧ (∀ o, (w4.alloc o).cell? ⟨w.heap.size, 3, none⟩ = some (.int .i64 0)) ∧ (∀ o, (w4.alloc o).cell? ⟨w.heap.size, 4, none⟩ = some (.string ⟨#[]⟩)) ∧ (∀ o, (w4.alloc o).cell? ⟨w.heap.size, 5, none⟩ = some (.slice none 0 0)) ∧ (∀ o, (w4.alloc o).cell? ⟨w.heap.size, 6, none⟩ = some (.slice none 0 0)) :=
   ⟨fun o => (HBR0.out.alloc o).cell 0, fun o => (HBR0.out.alloc o).cell 1, fun o => (HBR0.out.alloc o).cell 2, fun o => (HBR0.out.alloc o).cell 3, fun o => (HBR0.out.alloc o).cell 4, fun o => (HBR0.out.alloc o).cell 5, fun o => (HBR0.out.alloc o).cell 6⟩
  have r7 : ∀ o, (w4.alloc o).cell? ⟨w.heap.size + 1, 0, none⟩ = some (.bool false) := fun o => (HBR1.out.alloc o).cell 0
  have f0 : ∀ o, (w4.alloc o).frozen? ⟨w.heap.size, 0, none⟩ = false := fun o => (HBR0.out.alloc o).frozen 0
  have f1 : ∀ o, (w4.alloc o).frozen? ⟨w.heap.size, 1, none⟩ = false := fun o => (HBR0.out.alloc o).frozen 1
  have f2 : ∀ o, (w4.alloc o).frozen? ⟨w.heap.size, 2, none⟩ = false := fun o => (HBR0.out.alloc o).frozen 2
  have f3 : ∀ o, (w4.alloc o).frozen? ⟨w.heap.size, 3, none⟩ = false := fun o => (HBR0.out.alloc o).frozen 3
  have f4 : ∀ o, (w4.alloc o).frozen? ⟨w.heap.size, 4, none⟩ = false := fun o => (HBR0.out.alloc o).frozen 4
  have f5 : ∀ o, (w4.alloc o).frozen? ⟨w.heap.size, 5, none⟩ = false := fun o => (HBR0.out.alloc o).frozen 5
  have f6 : ∀ o, (w4.alloc o).frozen? ⟨w.heap.size, 6, none⟩ = false := fun o => (HBR0.out.alloc o).frozen 6
  have f7 : ∀ o, (w4.alloc o).frozen? ⟨w.heap.size + 1, 0, none⟩ = false := fun o => (HBR1.out.alloc o).frozen 0
  clear hl ho hE4
  gi_wp2
  change RoundRets _ _ _ _ _ ((set7 (w4.alloc (.cells #[.int .i64 sh.n, .bool sh.there, U8 sh.v.kind, .int .i64 sh.v.n, .string sh.v.s, .slice A4 sh.v.l.length c4, .slice A5 sh.v.o.length c5] TSHOT)) w.heap.size (.int .i64 sh.n) (.bool sh.there) (U8 sh.v.kind) (.int .i64 sh.v.n) (.string sh.v.s) (.slice A4 sh.v.l.length c4) (.slice A5 sh.v.o.length c5)).setCell ⟨w.heap.size + 1, 0, none⟩ (.bool true))
  obtain ⟨W5, hW5⟩ : ∃ W5, w4.alloc (.cells #[.int .i64 sh.n, .bool sh.there, U8 sh.v.kind, .int .i64 sh.v.n, .string sh.v.s, .slice A4 sh.v.l.length c4, .slice A5 sh.v.o.length c5] TSHOT) = W5 := ⟨_, rfl⟩
  have hE5 : Ext w4 W5 := by rw [← hW5]; exact (Keep.refl _ _).alloc _
  rw [hW5]
  clear hW5
  obtain ⟨W6, hW6⟩ : ∃ W6, set7 W5 w.heap.size (.int .i64 sh.n) (.bool sh.there) (U8 sh.v.kind) (.int .i64 sh.v.n) (.string sh.v.s) (.slice A4 sh.v.l.length c4) (.slice A5 sh.v.o.length c5) = W6 := ⟨_, rfl⟩
  have hk6 : Keep (· = w.heap.size) W5 W6 := by rw [← hW6]; exact set7_keep _ _ _ _ _ _ _ _ _
  have hb6 : Blk W6 w.heap.size TSHOT #[.int .i64 sh.n, .bool sh.there, U8 sh.v.kind, .int .i64 sh.v.n, .string sh.v.s, .slice A4 sh.v.l.length c4, .slice A5 sh.v.o.length c5] := by rw [← hW6]; exact set7_to (HBR0.out.keep hE5 id) _ _ _ _ _ _ _
  rw [hW6]
  clear hW6
  have hk7 : Keep (· = w.heap.size + 1) W6 (W6.setCell ⟨w.heap.size + 1, 0, none⟩ (.bool true)) := (Keep.refl _ _).set1 0 _
  have hb7 : Blk (W6.setCell ⟨w.heap.size + 1, 0, none⟩ (.bool true)) (w.heap.size + 1) 4 #[.bool true] := by
   have := ((HBR1.out.keep hE5 id).keep hk6 (by omega)).set_ 0 (.bool true)
   simpa using this
  have hkW : Keep (fun q => q = w.heap.size ∨ q = w.heap.size + 1) W (W6.setCell ⟨w.heap.size + 1, 0, none⟩ (.bool true)) :=
   ((((HE4.out.ext hE5).mono (G := fun q => q = w.heap.size ∨ q = w.heap.size + 1) fun _ _ x => x.elim).trans hk6 fun q _ e => .inl e).trans hk7 fun q _ e => .inr e)
  have hsw := HSZW.out
  refine ⟨⟨hkW.size, fun k o hB ho' hc => (hkW.block k (Array.getElem?_eq_some_iff.1 ho').1 (by omega)).trans ho'⟩, _, _, _, _, _, hb6.keep hk7 (by omega), hb7, ?_, (HEW.out.mono fun _ _ x => x.elim).trans hkW fun q _ e => e⟩
  exact (((HV4.out.ext hE5).keep hk6 fun q hq e => by omega).keep hk7 fun q hq e => by omega).more fun q _ h => by omega
 case done =>
  intro W hi hD
  obtain ⟨a0, a1, a2, a3, a4, h1, h2, h3, h4⟩ := hi
  have hlt1 := hlt0
  have HSZ3 := hid HE3.out.size
  have hE := HE3.out.trans h4 fun q hq e => by omega
  have hp : Keep (· = w3.heap.size) W (W.putObj w3.heap.size (.deferred none)) := Keep.grown (Keep.refl _ _) (grownBy_putObj' W _ _) fun k e _ => by cases e; rfl
  have hb6 := h1.keep hp (by omega)
  have hb7 := h2.keep hp (by omega)
  have HEND := hid (show ReadSIs w sh (.returned (.tuple #[.agg #[.int .i64 sh.n, .bool sh.there, a0, a1, a2, a3, a4], .bool true])) (W.putObj w3.heap.size (.deferred none)) from
   ⟨_, rfl, ⟨_, _, _, _, _, rfl, (h3.keep hp fun q hq e => by omega).more fun q _ h => by have := HSZ3.out; omega⟩, hE.trans hp fun q hq e => by have := HSZ3.out; omega⟩)
  obtain ⟨t0, t1, t2, t3, t4, t5, t6⟩ := blk7s hb6
  have t7 := hb7.cell 0
  simp only [List.getElem?_toArray, List.getElem?_cons_zero] at t7
  have HDD := hid hD
  clear h1 h2 h3 h4 hE hp hb6 hb7 hD hseq
  gi_wp2
  refine ⟨by simp, .inl ⟨_, _, rfl, run_takeDeferred HDD.out, ?_⟩⟩
  refine ⟨.tuple #[.agg #[.int .i64 sh.n, .bool sh.there, a0, a1, a2, a3, a4], .bool true], ?_, HEND.out⟩
  simp [results, Tryz.results12, Act.put, go_sem, t0, t1, t2, t3, t4, t5, t6, t7]
set_option maxRecDepth 100000 in
theorem load_no (w0 : World) (hva : ValAny w0) (w : World) (h0 : Ext w0 w) (B : BS) (d : Nat) (cs : List DC) (st : DSt) (nm : ByteArray) (hd : DiskIs w B d cs st) (hz : nm.size ≤ 140737488355328)
  (hbl : (readR cs (byt (fileT nm))).2.length ≤ 2000000) (hsc : (scanL (readR cs (byt (fileT nm))).2).1 = []) :
  Calls Tryz.prog 12 #[.pointer (some ⟨d, 0, none⟩), .string nm] w fun e w' => e = .returned (.tuple #[.agg #[.int .i64 0, .bool false, .int .u8 0, .int .i64 0, .string ⟨#[]⟩, .slice none 0 0, .slice none 0 0], .bool false]) ∧ Ext w w' := by
 have hadd : ∀ w' : World, (Op.stringOp .add nm snapT).run Tryz.prog w' = .ok (.string (fileT nm)) w' := fun w' => run_string_add_sum w' _ _ (by show nm.size + 5 ≤ _; omega)
 have hszX : ¬ 9223372036854775807 < nm.size + 5 := by omega
 have HD := hid hd
 have HVA := hid hva
 have H0 := hid h0
 have HBL := hid hbl
 have HSC := hid hsc
 have HZF := hid (show (fileT nm).size ≤ maxLen from by unfold fileT maxLen; rw [ByteArray.size_append]; show nm.size + 5 ≤ _; omega)
 clear hd hva h0 hbl hsc hz
 refine callsOfF Tryz.func12 rfl ?_
 simp only [Tryz.ntmps12, List.size_toArray, List.length_cons, List.length_nil, Nat.reduceAdd, Nat.reduceSub, Array.replicate_succ, Array.replicate_zero, List.push_toArray, List.append_toArray, List.nil_append, List.cons_append]
 gi_wp2_with fail
 obtain ⟨W0, hW0⟩ : ∃ W0, (w.alloc (.cells #[.int .i64 0, .bool false, .int .u8 0, .int .i64 0, .string ⟨#[]⟩, .slice none 0 0, .slice none 0 0] TSHOT)).alloc (.cells #[.bool false] 4) = W0 := ⟨_, rfl⟩
 have hE0 : Ext w W0 := by rw [← hW0]; exact ((Keep.refl _ _).alloc _).alloc _
 have hb0 : Blk W0 w.heap.size TSHOT #[.int .i64 0, .bool false, .int .u8 0, .int .i64 0, .string ⟨#[]⟩, .slice none 0 0, .slice none 0 0] := by rw [← hW0]; exact (Blk.new _ _ _).alloc _
 have hb1 : Blk W0 (w.heap.size + 1) 4 #[.bool false] := by
  have := Blk.new (w.alloc (.cells #[.int .i64 0, .bool false, .int .u8 0, .int .i64 0, .string ⟨#[]⟩, .slice none 0 0, .slice none 0 0] TSHOT)) 4 #[.bool false]
  rw [World.size_alloc] at this
  rw [← hW0]; exact this
 rw [show (w.alloc (.cells #[.int .i64 0, .bool false, .int .u8 0, .int .i64 0, .string ⟨#[]⟩, .slice none 0 0, .slice none 0 0] 35)).alloc (.cells #[.bool false] 4) = W0 from hW0]
 clear hW0
 refine ⟨trivial, (callsIn_wide.2 (disk_read W0 B d cs st (fileT nm) (HD.out.ext hE0) HZF.out)).mono ?_⟩
 rintro e w1 ⟨A1, c1, rfl, hx, hk⟩
 have HB0 := hid (hb0.keep hk id)
 have HB1 := hid (hb1.keep hk id)
 have HE1 := hid (hE0.ext hk)
 have HBY := hid hx
 clear hE0 hb0 hb1 hx hk
 gi_wp2_with fail
 refine ⟨trivial, (callsIn_wide.2 (scan_any _ _ _ w1 HBY.out HBL.out)).mono ?_⟩
 rintro e w2 ⟨v2, rfl, hrow, hE2⟩
 have HE2 := hid (HE1.out.ext hE2)
 replace HB0 := hid (HB0.out.keep hE2 id)
 replace HB1 := hid (HB1.out.keep hE2 id)
 rw [show (scanL (readR cs (byt (fileT nm))).2).1 = [] from HSC.out] at hrow
 obtain ⟨A2, c2, rfl, hlc2, _⟩ := hrow.shape
 have HROW := hid hrow
 clear hrow hE2 HE1
 gi_wp2_with fail
 refine ⟨trivial, (callsIn_wide.2 (back0_ok A2 _ c2 w2)).mono ?_⟩
 rintro e w3 ⟨rfl, hw3⟩
 have hE3 : Ext w2 w3 := by rw [hw3]; exact (Keep.refl _ _).alloc _
 have hb2 : Blk w3 w2.heap.size TBS #[.slice A2 0 c2] := by rw [hw3]; exact Blk.new _ _ _
 have hseq := back1_no 4 w2.heap.size w3 A2 c2 hb2
 have HE3 := hid (HE2.out.ext hE3)
 replace HB0 := hid (HB0.out.keep hE3 id)
 replace HB1 := hid (HB1.out.keep hE3 id)
 clear hw3 hb2 hE3 HE2 HROW HBY
 gi_wp2_with fail
 have hlt0 := HB1.out.lt
 refine wpIn_range_none rfl (by omega) (gf := 63) (lb := #[.pointer (some ⟨w2.heap.size, 0, none⟩)]) rfl trivial (enters_of Tryz.func63 (by kernel_rfl) rfl) hseq ?done
 case done =>
  intro W hE hD
  have hb6 := HB0.out.keep hE id
  have hb7 := HB1.out.keep hE id
  obtain ⟨t0, t1, t2, t3, t4, t5, t6⟩ := blk7s hb6
  obtain ⟨f0, f1, f2, f3, f4, f5, f6⟩ := frz7s hb6
  have t7 := hb7.cell 0
  have f7 := hb7.frozen 0
  simp only [List.getElem?_toArray, List.getElem?_cons_zero] at t7
  have HEND := hid (HE3.out.ext hE)
  have HB6 := hid hb6
  have HB7 := hid hb7
  have HDD := hid hD
  clear hE hb6 hb7 hD hseq
  gi_wp2
  change bodyPostM _ _ _ _ _ _ _ ((set7 W w.heap.size (.int .i64 0) (.bool false) (.int .u8 0) (.int .i64 0) (.string ⟨#[]⟩) (.slice none 0 0) (.slice none 0 0)).setCell ⟨w.heap.size + 1, 0, none⟩ (.bool false))
  obtain ⟨W6, hW6⟩ : ∃ W6, set7 W w.heap.size (.int .i64 0) (.bool false) (.int .u8 0) (.int .i64 0) (.string ⟨#[]⟩) (.slice none 0 0) (.slice none 0 0) = W6 := ⟨_, rfl⟩
  have hk6 : Keep (· = w.heap.size) W W6 := by rw [← hW6]; exact set7_keep _ _ _ _ _ _ _ _ _
  have hb6 : Blk W6 w.heap.size TSHOT #[.int .i64 0, .bool false, .int .u8 0, .int .i64 0, .string ⟨#[]⟩, .slice none 0 0, .slice none 0 0] := by rw [← hW6]; exact set7_to HB6.out _ _ _ _ _ _ _
  rw [hW6]
  clear hW6
  obtain ⟨W7, hW7⟩ : ∃ W7, W6.setCell ⟨w.heap.size + 1, 0, none⟩ (.bool false) = W7 := ⟨_, rfl⟩
  have hk7 : Keep (· = w.heap.size + 1) W6 W7 := by rw [← hW7]; exact (Keep.refl _ _).set1 0 _
  have hb7 : Blk W7 (w.heap.size + 1) 4 #[.bool false] := by
   have := (HB7.out.keep hk6 (by omega)).set_ 0 (.bool false)
   rw [← hW7]
   simpa using this
  rw [hW7]
  clear hW7
  have hd7 : W7.heap[w3.heap.size]? = some (.deferred (some [])) := by
   have hl := (Array.getElem?_eq_some_iff.1 HDD.out).1
   have hl6 := hk6.size
   exact ((hk7.block _ (by omega) (by omega)).trans (hk6.block _ hl (by omega))).trans HDD.out
  have hp : Keep (· = w3.heap.size) W7 (W7.putObj w3.heap.size (.deferred none)) := Keep.grown (Keep.refl _ _) (grownBy_putObj' W7 _ _) fun k e _ => by cases e; rfl
  have hb8 := (hb6.keep hk7 (by omega)).keep hp (by omega)
  have hb9 := hb7.keep hp (by omega)
  obtain ⟨u0, u1, u2, u3, u4, u5, u6⟩ := blk7s hb8
  have u7 := hb9.cell 0
  simp only [List.getElem?_toArray, List.getElem?_cons_zero] at u7
  have hfin := ((HEND.out.trans hk6 fun q hq e => by omega).trans hk7 fun q hq e => by omega).trans hp fun q hq e => by omega
  refine ⟨by simp, .inl ⟨_, _, rfl, run_takeDeferred hd7, ?_⟩⟩
  refine ⟨.tuple #[.agg #[.int .i64 0, .bool false, .int .u8 0, .int .i64 0, .string ⟨#[]⟩, .slice none 0 0, .slice none 0 0], .bool false], ?_, rfl, hfin⟩
  simp [results, Tryz.results12, Act.put, go_sem, u0, u1, u2, u3, u4, u5, u6, u7]
end Go.Proofs.YtihaliffcobacaaGreatDoor
namespace Go.Proofs.YtihaliffcobacaaGreatDoor
open Go.RowKit
structure Dk (w : World) (N : BS) (wx : World) (B : BS) (d : Nat) (cs : List DC) (s : DSt) : Prop where
 is : DiskIs wx B d cs s
 no : ∀ k, B k → ¬ N k
 low : ∀ k, B k → w.heap.size ≤ k ∧ k < wx.heap.size
 ext : Ext w wx
 own : ∀ k, N k → w.heap.size ≤ k ∧ k < wx.heap.size
section
variable {w wx wy : World} {N B : BS} {d : Nat} {cs cs' : List DC} {s s' : DSt}
theorem Dk.new {w wx wy : World} {N B : BS} {d : Nat} {cs : List DC} {s : DSt} (h : DskW w wy B d cs s) (hl : ∀ k, B k → wx.heap.size ≤ k) (hE : Ext wx wy) (hN : ∀ k, N k → w.heap.size ≤ k ∧ k < wx.heap.size) : Dk w N wy B d cs s :=
 ⟨h.is, fun k hb hn => by have := hl k hb; have := (hN k hn).2; omega, h.low, h.ext, fun k hn => ⟨(hN k hn).1, Nat.lt_of_lt_of_le (hN k hn).2 hE.size⟩⟩
theorem Dk.step (h : Dk w N wx B d cs s) (hk : Keep B wx wy) (hd : DiskIs wy B d cs' s') : Dk w N wy B d cs' s' :=
 ⟨hd, h.no, fun k hb => ⟨(h.low k hb).1, Nat.lt_of_lt_of_le (h.low k hb).2 hk.size⟩, h.ext.trans hk fun k hk hb => by have := (h.low k hb).1; omega, fun k hn => ⟨(h.own k hn).1, Nat.lt_of_lt_of_le (h.own k hn).2 hk.size⟩⟩
theorem Dk.grow (h : Dk w N wx B d cs s) (hk : Keep B wx wy) (hd : DiskIs wy (moreB B wx wy) d cs' s') : Dk w N wy (moreB B wx wy) d cs' s' :=
 ⟨hd, fun k hb hn => by
  rcases hb with hb | hb
  ·exact h.no k hb hn
  ·have := (h.own k hn).2; omega, fun k hb => by
  have := hk.size; have := h.ext.size
  rcases hb with hb | hb
  ·have := h.low k hb; omega
  ·omega, h.ext.trans hk fun k hk hb => by have := (h.low k hb).1; omega, fun k hn => ⟨(h.own k hn).1, Nat.lt_of_lt_of_le (h.own k hn).2 hk.size⟩⟩
theorem Dk.more (h : Dk w N wx B d cs s) (hE : Ext wx wy) : Dk w (fun k => N k ∨ (wx.heap.size ≤ k ∧ k < wy.heap.size)) wy B d cs s :=
 ⟨h.is.ext hE, fun k hb hn => by
  rcases hn with hn | hn
  ·exact h.no k hb hn
  ·have := (h.low k hb).2; omega, fun k hb => ⟨(h.low k hb).1, Nat.lt_of_lt_of_le (h.low k hb).2 hE.size⟩, h.ext.ext hE, fun k hn => by
  have := h.ext.size; have := hE.size
  rcases hn with hn | hn
  ·have := h.own k hn; omega
  ·omega⟩
theorem Dk.less {N' : BS} (h : Dk w N wx B d cs s) (hN : ∀ k, N' k → N k) : Dk w N' wx B d cs s := ⟨h.is, fun k hb hn => h.no k hb (hN k hn), h.low, h.ext, fun k hn => h.own k (hN k hn)⟩
theorem Dk.set (h : Dk w N wx B d cs s) (hk : Keep N wx wy) : Dk w N wy B d cs s :=
 ⟨h.is.keep hk fun k hb => h.no k hb, h.no, fun k hb => ⟨(h.low k hb).1, Nat.lt_of_lt_of_le (h.low k hb).2 hk.size⟩, h.ext.trans hk fun k hk2 hn => by have := (h.own k hn).1; omega, fun k hn => ⟨(h.own k hn).1, Nat.lt_of_lt_of_le (h.own k hn).2 hk.size⟩⟩
end
end Go.Proofs.YtihaliffcobacaaGreatDoor
