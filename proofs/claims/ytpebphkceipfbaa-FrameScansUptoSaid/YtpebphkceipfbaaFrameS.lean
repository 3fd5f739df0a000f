/- frame.Scan. -/
import Derived.Test.YtpebphkceipfbaaFrameE
import Derived.Test.YtpebphkceipfbaaConvS
set_option linter.unusedSimpArgs false
set_option linter.unusedVariables false
namespace Go.Proofs.Ytpebphkceipfbaa
open Go.RowKit Go.Shelf
set_option linter.unusedVariables false
attribute [local go_sem] Oper.semAt_some

theorem callsOf {P : Program} {f : FuncId} {fn : Func} {c : Code} {args : Array Value} {w : World} {R : Ending → World → Prop} (hf : P.funcs[f]? = some fn) (hb : fn.body = some c)
    (h : c.wpIn Fence.wide 5 P (bodyPostM Fence.wide 5 P fn R) { tmps := args ++ Array.replicate (fn.ntmps - args.size) undef, defers := [] } w) : Calls P f args w R := callsIn_wide.1 (callsIn_of_wp_marks hf hb trivial h rfl)
abbrev TB : Nat := 22
abbrev TBS : Nat := 37
theorem ty_bytes : TyInfo Try.prog TBS TB 1 24 := by
  obtain ⟨i, h1, h2, h3, h4⟩ := info_parts (show (Try.prog.info? TB).map (fun i => (i.zero, i.size, i.bytes)) = some (some (.slice none 0 0), 1, 24) from by kernel_rfl)
  exact ⟨Try.underlying37, i, _, h1, h2, h3, h4, rfl⟩
/-- In a round: 'append(own, ys...)'. -/
theorem wpListIn_own_append2 {F : Fence} {n : Nat} {P : Program} {α : Type} {E : El α} {S S2 : BS} {base : Nat} {t T : TypeId} {v y : Value} {xs ys : List α} {bytes : Nat} (w : World) {SR : BS} {ds : List Value} {ops : Array Oper} {rest : List Oper} {o : Oper} {a : Act} {Q : Exit → Act → World → Prop} (hgd : o.guard = none) (s x : Operand)
    (hE : E.Ok) (ht : TyInfo P t T E.size bytes) (ho : o.op = .call { callee := .builtin .append, args := #[s, x], argTypes := #[t, t] })
    (hs : a.eval s = v) (hx : a.eval x = y) (hown : Own E w base T S v xs) (hsr : RowS w SR E.size y ys.length ds) (hds : Cells E w S2 ds ys) (hg : ∀ g, v.ownBlock = some g → ¬ S g ∧ ¬ S2 g)
    (hbytes : (xs.length + ys.length) * bytes ≤ 140737488355328) (h63 : xs.length + ys.length ≤ maxLen) (hbase : base ≤ w.heap.size)
    (h : ∀ v' w', Own E w' base T (fun k => S k ∨ S2 k) v' (xs ++ ys) → Keep (fun k => v.ownBlock = some k) w w' → (v'.ownBlock = v.ownBlock ∨ v'.ownBlock = some w.heap.size) → w.grownBy w' v.ownBlock → wpListIn F n P ops Q rest (a.put o.dst v') w') : wpListIn F n P ops Q (o :: rest) a w := by
  obtain ⟨v', w', hrun, h1, h2, h3⟩ := own_append2 (P := P) (w := w) hE ht o.type hown hsr hds hg h63 hbytes hbase
  refine wpListIn_plain hgd fun K hK => ?_
  unfold Oper.wpIn
  refine ⟨?_, ?_⟩
  · simp [Oper.about, ho, resolve, Target.leads, Sem.run_pure]
  · rw [Oper.semAt_plain F _ _ (by rw [ho]; intro c hc'; cases hc')]
    simp [execOp, ho, resolve, invoke, builtin, hs, hx, hrun, Result.andThen]
    exact hK _ _ (h v' w' h1 ((Keep.refl _ _).grown h2 (fun k e _ => e)) h3 h2)

theorem BytesS.keep' {F : Nat → Prop} {w w' : World} {S : BS} {v : Value} {l : List UInt8} (h : BytesS w S v l) (hk : Keep F w w') (hF : ∀ k, S k → ¬ F k) : BytesS w' S v l := Sl.keep EU8.ok h hk hF
theorem each_ok (A : Option Addr) (n c : Nat) (w : World) :
    Calls Try.prog 26 #[.slice A n c] w fun e w' => e = .returned (.func (.func 29) #[] #[.pointer (some ⟨w.heap.size, 0, none⟩)]) ∧ w' = w.alloc (.cells #[.slice A n c] TB) := by
  go_enter Try.func26, Try.ntmps26
  go_wp2
  go_ret
  exact ⟨rfl, rfl⟩

/-- Where the last one ends. -/
def lastP (pre : List Fr) : Nat := (pre.map Fr.p).getLastD 0
/-- What Scan has collected, between two rounds. -/
def Coll (w : World) (B nb : Nat) (pre : List Fr) (W : World) : Prop :=
  ∃ (v : Value) (S : BS), Blk W nb TBS #[v] ∧ Blk W (nb + 1) 3 #[.int .i64 (lastP pre : Int)] ∧ Own EBytes W B TB S v (pre.map Fr.x) ∧ (∀ k, S k → B ≤ k ∧ v.ownBlock ≠ some k) ∧ Ext w W
theorem Coll.ext {w : World} {B nb : Nat} {pre : List Fr} {W W' : World} (h : Coll w B nb pre W) (hE : Ext W W') : Coll w B nb pre W' := by
  obtain ⟨v, S, h1, h2, h3, h4, h5⟩ := h
  exact ⟨v, S, h1.keep hE id, h2.keep hE id, h3.ext EBytes.ok hE, h4, h5.ext hE⟩
theorem Coll.put {w : World} {B nb : Nat} {pre : List Fr} {W : World} (h : Coll w B nb pre W) {l : Nat} (o' : Obj) (hw : w.heap.size ≤ nb) (hl : nb + 1 < l) (hlB : l < B) : Coll w B nb pre (W.putObj l o') := by
  obtain ⟨v, S, h1, h2, h3, h4, h5⟩ := h
  have hk : Keep (· = l) W (W.putObj l o') := Keep.grown (Keep.refl _ _) (grownBy_putObj' W l o') fun k e _ => by cases e; rfl
  exact ⟨v, S, h1.keep hk (by omega), h2.keep hk (by omega), h3.keep EBytes.ok hk (fun k hs e => by have := (h4 k hs).1; omega) (fun g hg e => by have := (h3.lt hg).1; omega), h4, h5.trans hk fun k hk e => by omega⟩

theorem Own.blk {α : Type} {E : El α} {w : World} {base : Nat} {T : TypeId} {S : BS} {v : Value} {xs : List α} (h : Own E w base T S v xs) {g : Nat} (hg : v.ownBlock = some g) : ∃ cs, Blk w g T cs := by
  rcases h with ⟨rfl, _⟩ | ⟨g', cap, cur, rfl, _, hb, _⟩
  · cases hg
  · injection hg with hg; subst hg; exact ⟨_, hb⟩
theorem lastP_snoc (pre : List Fr) (f : Fr) : lastP (pre ++ [f]) = f.p := by simp [lastP]

set_option maxRecDepth 100000 in
set_option maxHeartbeats 3200000 in
theorem scan_any (v : Value) (b : List UInt8) (S : BS) (w : World) (hv : BytesS w S v b) (hbl : b.length ≤ 100000) :
    Calls Try.prog 13 #[v] w fun e w' => ∃ v', e = .returned (.tuple #[v', .int .i64 ((scanL b).2 : Int)]) ∧ Sl EBytes w' (fun k => w.heap.size ≤ k) v' (scanL b).1 ∧ Ext w w' := by
  obtain ⟨A, c, rfl, hlc, hcm⟩ := hv.shape
  unfold maxLen at hcm
  have HV := hid hv
  clear hv
  refine callsOf Try.func13 rfl ?_
  simp only [Try.ntmps13, List.size_toArray, List.length_cons, List.length_nil, Nat.reduceAdd, Nat.reduceSub, Array.replicate_succ, Array.replicate_zero, List.push_toArray, List.append_toArray, List.nil_append, List.cons_append]
  gi_wp2_with fail
  refine ⟨trivial, (callsIn_wide.2 (each_ok _ _ _ _)).mono ?_⟩
  rintro e w' ⟨rfl, rfl⟩
  gi_wp2_with fail
  obtain ⟨W0, hW0⟩ : ∃ W0, ((w.alloc (.cells #[.slice none 0 0] TBS)).alloc (.cells #[.int .i64 0] 3)).alloc (.cells #[.slice A b.length c] TB) = W0 := ⟨_, rfl⟩
  have hE0 : Ext w W0 := by rw [← hW0]; exact (((Keep.refl _ _).alloc _).alloc _).alloc _
  have hsz : W0.heap.size = w.heap.size + 3 := by rw [← hW0]; simp
  have hb0 : Blk W0 w.heap.size TBS #[.slice none 0 0] := by rw [← hW0]; exact ((Blk.new w TBS _).alloc _).alloc _
  have hb1 : Blk W0 (w.heap.size + 1) 3 #[.int .i64 0] := by
    have := (Blk.new (w.alloc (.cells #[.slice none 0 0] TBS)) 3 #[.int .i64 0]).alloc (.cells #[.slice A b.length c] TB)
    rw [World.size_alloc] at this
    rw [← hW0]; exact this
  have hb2 : Blk W0 (w.heap.size + 1 + 1) TB #[.slice A b.length c] := by
    have := Blk.new ((w.alloc (.cells #[.slice none 0 0] TBS)).alloc (.cells #[.int .i64 0] 3)) TB #[.slice A b.length c]
    rw [World.size_alloc, World.size_alloc] at this
    rw [← hW0]; exact this
  simp only [hW0]
  have HSZ := hid hsz
  have hseq := each_all 4 (w.heap.size + 1 + 1) W0 (fun k => S k ∧ k < w.heap.size) _ b (by omega) hb2 ((HV.out.more (S' := fun k => S k ∧ k < w.heap.size) EU8.ok fun k h1 h2 => ⟨h2, h1⟩).ext EU8.ok hE0) (fun k h => by omega)
  have h0 : Coll w (W0.heap.size + 2) w.heap.size [] W0 := ⟨_, fun _ => False, hb0, hb1, Own.nil _ _ _ _, fun _ h => h.elim, hE0⟩
  clear hW0 hE0 hb0 hb1 hb2 HV
  refine wpIn_range_new rfl (by omega) (gf := 29) (lb := #[.pointer (some ⟨w.heap.size + 1 + 1, 0, none⟩)]) rfl trivial (enters_of Try.func29 (by kernel_rfl) rfl) hseq (fun h k => h.trans k fun _ _ h => h) ?kb (fun _ => rfl)
    (Coll w (W0.heap.size + 2) w.heap.size) (fun s A B h hE => h.ext hE) (fun s W o' h hl => h.put o' (Nat.le_refl _) (by omega) (by omega)) h0 ?fo
    (fun f => { tmps := #[.slice A b.length c, undef, .slice none 0 0, .int .i64 0, .pointer (some ⟨w.heap.size, 0, none⟩), .pointer (some ⟨w.heap.size + 1, 0, none⟩), .int .i64 (f.p : Int), f.v, .slice A b.length c, .func (.func 29) #[] #[.pointer (some ⟨w.heap.size + 1 + 1, 0, none⟩)], .int .i64 (f.p : Int), f.v, undef, undef, undef, undef, undef, undef, undef], defers := [] })
    ?assign ?body ?done
  case kb => exact fun W o' hl => Keep.grown (Keep.refl _ _) (grownBy_putObj' W _ o') fun k e _ => by cases e; exact ⟨by omega, fun h => by omega⟩
  case fo =>
    intro x Wp W o' hx hl
    exact BytesS.keep' hx (Keep.grown (F := (· = W0.heap.size + 1)) (Keep.refl _ _) (grownBy_putObj' W _ o') fun k e _ => by cases e; rfl) fun k hk e => by omega
  case assign =>
    rintro l f W K hK
    simp only [Fr.enc, Fr.v] at hK ⊢
    gi_wp2
    exact hK
  case body =>
    rintro l pre f Wp W ⟨v, S2, h1, h2, h3, h4, h5⟩ hlt hk hm hlen
    have g1 := h1.keep hk (by omega)
    have g2 := h2.keep hk (by omega)
    have g3 := h3.keep EBytes.ok hk (fun k hs e => by have := (h4 k hs).1; omega) (fun g hg e => by have := (h3.lt hg).1; omega)
    obtain ⟨Av, cv, rfl, _, _⟩ := h3.shape
    rw [List.length_map] at g1 g3 h4 h3
    have q0 := g1.cell 0
    have q1 := g2.cell 0
    have f1 := g2.frozen 0
    simp at q0 q1
    have G1 := hid g1
    have G2 := hid g2
    have G3 := hid g3
    have H4 := hid h4
    have HK := hid hk
    have HM := hid hm
    have H5 := hid h5
    have HSZW := hid hk.size
    have HLTG := hid (fun g (e : (Value.slice Av pre.length cv).ownBlock = some g) => h3.lt e)
    clear h1 h2 h3 h4 h5 hk hm g1 g2 g3 h0 hseq
    obtain ⟨W1, hW1⟩ : ∃ W1, (W.setCell ⟨w.heap.size + 1, 0, none⟩ (.int .i64 (f.p : Int))).alloc (.cells #[f.v] TB) = W1 := ⟨_, rfl⟩
    have hz1 : (W.setCell ⟨w.heap.size + 1, 0, none⟩ (.int .i64 (f.p : Int))).heap.size = W.heap.size := by simp
    have hks : Keep (· = w.heap.size + 1) W (W.setCell ⟨w.heap.size + 1, 0, none⟩ (.int .i64 (f.p : Int))) := (Keep.refl _ _).set1 0 _
    have hk1 : Keep (· = w.heap.size + 1) W W1 := by rw [← hW1]; exact hks.alloc _
    have hrow : RowS W1 (fun k => k = W.heap.size) 1 (.slice (some ⟨W.heap.size, 0, none⟩) 1 1) 1 [f.v] := by
      have := RowS.new (w := W.setCell ⟨w.heap.size + 1, 0, none⟩ (.int .i64 (f.p : Int))) (t := TB) (sz := 1) (cs := [f.v]) (n := 1) rfl (by simp [maxLen])
      rw [hz1] at this
      rw [← hW1]; exact this
    have hzw := HSZW.out
    have hz3 := HSZ.out
    have hm1 : BytesS W1 (fun k => Wp.heap.size ≤ k) f.v f.x := BytesS.keep' HM.out hk1 fun k hk e => by omega
    have ho1 : Own EBytes W1 (W0.heap.size + 2) TB S2 (.slice Av pre.length cv) (pre.map Fr.x) := G3.out.keep EBytes.ok hk1 (fun k hs e => by have := (H4.out k hs).1; omega) (fun g hg e => by have := (HLTG.out g hg).1; omega)
    have hbx : Blk W1 (w.heap.size + 1) 3 #[.int .i64 (f.p : Int)] := by rw [← hW1]; exact (G2.out.set_ 0 _).alloc _
    have hb0 : Blk W1 w.heap.size TBS #[.slice Av pre.length cv] := G1.out.keep hk1 (by omega)
    have hz4 := hk1.size
    have hfl := framesL_length b.length 0 b (Nat.le_refl _)
    have hzz : W1.heap.size = W.heap.size + 1 := by rw [← hW1]; simp
    have hm2 := hm1.more (S' := fun k => Wp.heap.size ≤ k ∧ k < W1.heap.size) EU8.ok fun k h1 h2 => ⟨h2, h1⟩
    have ho2 := ho1.more (S' := fun k => S2 k ∧ k < W1.heap.size) EBytes.ok fun k h1 h2 => ⟨h2, h1⟩
    have HZZ := hid hzz
    have HW1 := hid hW1
    clear hW1 hks hz3 hsz hm1 ho1 hzz
    gi_wp2_with (gi_at_builtin; refine wpListIn_own_append2 (P := Try.prog) (E := EBytes) (v := .slice Av pre.length cv) (xs := pre.map Fr.x) (ys := [f.x]) _ rfl (.tmp 13) (.tmp 15) EBytes.ok ty_bytes rfl rfl rfl (HW1.out ▸ ho2) (HW1.out ▸ hrow) (Cells.single ⟨_, rfl, HW1.out ▸ hm2⟩) ?f1 ?f2 ?f3 ?f4 ?_)
    case f1 => exact fun g hg => ⟨fun h => (H4.out g h.1).2 hg, fun h => by have := (HLTG.out g hg).2; have := h.1; omega⟩
    case f2 => rw [List.length_map]; simp only [List.length_singleton]; omega
    case f3 => rw [List.length_map]; simp only [List.length_singleton, maxLen]; omega
    case f4 => simp; omega
    intro v2 w2 hown2 hk2 hb2 _
    rw [HW1.out] at hk2
    obtain ⟨A2, c2, rfl, _⟩ := hown2.shape
    have hb3 : Blk w2 w.heap.size TBS #[.slice Av pre.length cv] := hb0.keep hk2 (fun e => by have := (HLTG.out _ e).1; have := HSZ.out; omega)
    have hx3 : Blk w2 (w.heap.size + 1) 3 #[.int .i64 (f.p : Int)] := hbx.keep hk2 (fun e => by have := (HLTG.out _ e).1; have := HSZ.out; omega)
    have s0 := hb3.cell 0
    have s1 := hb3.frozen 0
    simp at s0
    have HO2 := hid hown2
    have HK2 := hid hk2
    have HB2 := hid hb2
    have HX3 := hid hx3
    have HB3 := hid hb3
    clear hown2 hk2 hb2 hx3 hb3 hrow hm2 ho2 hbx hb0 hk1 hz1 q0 q1 f1
    gi_wp2
    have hl2 : (pre.map Fr.x ++ [f.x]).length = pre.length + 1 := by simp
    have hb2 := HB2.out
    have ho := HO2.out
    rw [hl2] at ho hb2
    have hz := HSZ.out
    have hzz := HZZ.out
    have hg2 : ∀ g, (Value.slice A2 (pre.length + 1) c2).ownBlock = some g → W0.heap.size + 2 ≤ g := fun g e => (ho.lt e).1
    have hk3 : Keep (· = w.heap.size) w2 (w2.setCell ⟨w.heap.size, 0, none⟩ (.slice A2 (pre.length + 1) c2)) := (Keep.refl _ _).set1 0 _
    have hkW : Keep (fun k => k = w.heap.size ∨ k = w.heap.size + 1 ∨ (Value.slice Av pre.length cv).ownBlock = some k) W (w2.setCell ⟨w.heap.size, 0, none⟩ (.slice A2 (pre.length + 1) c2)) := by
      have hk1 : Keep (· = w.heap.size + 1) W W1 := by rw [← HW1.out]; exact ((Keep.refl _ _).set1 0 _).alloc _
      exact ((hk1.mono (G := fun k => k = w.heap.size ∨ k = w.heap.size + 1 ∨ (Value.slice Av pre.length cv).ownBlock = some k) fun _ _ h => .inr (.inl h)).trans HK2.out fun _ _ h => .inr (.inr h)).trans hk3 fun _ _ h => .inl h
    refine ⟨⟨hkW.size, fun k o hB ho' hc => (hkW.block k (Array.getElem?_eq_some_iff.1 ho').1 ?_).trans ho'⟩, hkW.mono fun k hk h => ?_, .slice A2 (pre.length + 1) c2, fun k => (S2 k ∧ k < W.heap.size + 1) ∨ (Wp.heap.size ≤ k ∧ k < W.heap.size + 1), HB3.out.set_ 0 _, ?_, ?_, ?_, ?_⟩
    · rintro (h | h | h)
      · omega
      · omega
      · obtain ⟨cs, hcs⟩ := G3.out.blk h
        unfold Blk at hcs
        rw [hcs] at ho'; cases ho'; cases hc
    · rcases h with h | h | h
      · omega
      · omega
      · have := (HLTG.out k h).1; omega
    · rw [lastP_snoc]; exact HX3.out.keep hk3 (by omega)
    · rw [List.map_append]
      exact ho.keep EBytes.ok hk3 (fun k hk e => by
        rcases hk with hk | hk
        · have := (H4.out k hk.1).1; omega
        · have := hk.1; omega) (fun g hg e => by have := hg2 g hg; omega)
    · intro k hk
      refine ⟨?_, fun e => ?_⟩
      · rcases hk with hk | hk
        · exact (H4.out k hk.1).1
        · have := hk.1; omega
      · rcases hb2 with h | h
        · rw [h] at e
          rcases hk with hk | hk
          · exact (H4.out k hk.1).2 e
          · have := (HLTG.out k e).2; have := hk.1; omega
        · rw [h] at e; injection e with e
          rcases hk with hk | hk
          · have := hk.2; omega
          · have := hk.2; omega
    · exact ((H5.out.trans HK.out fun k hk e => by omega).trans hkW fun k hk h => by
        rcases h with h | h | h
        · omega
        · omega
        · have := (HLTG.out k h).1; omega)
  case done =>
    rintro xs W hxs ⟨v, S2, h1, h2, h3, h4, h5⟩ hD
    obtain ⟨Av, cv, rfl, _, _⟩ := h3.shape
    rw [List.length_map] at h1 h3 h4
    have q0 := h1.cell 0
    have q1 := h2.cell 0
    simp at q0 q1
    have hsc := scan_frames b.length 0 b (Nat.le_refl _)
    have hx1 : xs.map Fr.x = (scanL b).1 := by rw [← hsc.1, ← hxs, List.map_map]; rfl
    have hx2 : lastP xs = (scanL b).2 := by
      have : lastP xs = 0 + (scanL b).2 := by rw [← hsc.2, ← hxs, List.map_map]; rfl
      omega
    rw [hx1] at h3
    rw [hx2] at q1
    have H3 := hid h3
    have H4 := hid h4
    have H5 := hid h5
    have HDD := hid hD
    clear h1 h2 h3 h4 h5 hD hseq h0 hxs hsc hx1 hx2
    gi_wp2_with fail
    refine wpIn_wide.2 ?_
    refine wp_region_grow (specOf []) (fun w' => Ext W w') stable_nil (stableC_ext _) (by kernel_rfl) (by kernel_rfl) (Keep.drew (Keep.refl _ _)) ?_
    iterate 4
      (try simp only [Act.put, List.setIfInBounds_toArray, List.set_cons_zero, List.set_cons_succ])
      refine grow_run rfl rfl rfl ?_
      apply Exists.intro
      refine ⟨fun w' hC hK => ?_, ?_⟩
      · have q0 := (hC.cell (lt_of_cell q0) id).trans q0
        have q1 := (hC.cell (lt_of_cell q1) id).trans q1
        go_simp
        rfl
    refine grow_nil fun w2 hC _ => ?_
    have hC : Ext W w2 := hC
    have hK := (hC.block _ (Array.getElem?_eq_some_iff.1 HDD.out).1 id).trans HDD.out
    have hp : Keep (· = W0.heap.size) w2 (w2.putObj W0.heap.size (.deferred none)) := Keep.grown (Keep.refl _ _) (grownBy_putObj' w2 _ _) fun k e _ => by cases e; rfl
    have hr := ((H3.out.ext EBytes.ok hC).keep EBytes.ok hp (fun k hk e => by have := (H4.out k hk).1; omega) (fun g hg e => by have := (H3.out.lt hg).1; omega)).sl EBytes.ok
    have hr2 := hr.more (S' := fun k => w.heap.size ≤ k) EBytes.ok fun k _ h => by
      rcases h with h | h
      · have := (H4.out k h).1; omega
      · have := (H3.out.lt h).1; omega
    have HR := hid hr2
    have HEND := hid ((H5.out.ext hC).trans hp fun k hk e => by omega)
    clear hr hr2 hp hC q0 q1
    gi_wp2
    refine ⟨by simp, .inl ⟨_, _, rfl, run_takeDeferred hK, ?_⟩⟩
    refine ⟨.tuple #[.slice Av xs.length cv, .int .i64 ((scanL b).2 : Int)], ?_, _, rfl, HR.out, HEND.out⟩
    first | exact results_two rfl _ _ _ _ | simp [results, Try.results13, Act.put, go_sem]
end Go.Proofs.Ytpebphkceipfbaa
