/- Frames: the reference's Scan and Same, by contract; both Opens at any bytes. -/
import Derived.Test.YtpebphkceipfbaaFrameS
import Derived.Test.YtpebphkceipfbaaFrameR
set_option linter.unusedSimpArgs false
set_option linter.unusedVariables false
namespace Go.Proofs.Ytpebphkceipfbaa
open Go.RowKit
set_option linter.unusedVariables false

def openX (b : List UInt8) : List UInt8 := (openL b).getD []
def openN (b : List UInt8) : Nat := match openL b with | none => 0 | some x => 8 + x.length
def openE (b : List UInt8) : Nat := match openL b with | none => 120 | some _ => 0
theorem openE_le (b : List UInt8) : openE b ≤ 120 := by unfold openE; split <;> omega
theorem openX_le (b : List UInt8) : (openX b).length ≤ b.length := by
  unfold openX
  cases h : openL b with
  | none => simp
  | some x => have := (openL_length h).1; simp; omega

theorem open_all (v : Value) (l : List UInt8) (S : BS) (w : World) (hv : BytesS w S v l) :
    Calls Try.prog 11 #[v] w fun e w' => ∃ A c, e = .returned (.tuple #[.slice A (openX l).length c, .int .i64 (openN l : Int), .int .u16 (openE l : Int)]) ∧ BytesS w' (fun k => w.heap.size ≤ k) (.slice A (openX l).length c) (openX l) ∧ Ext w w' :=
  (open_any v l S w hv).mono fun e w' h => by
    unfold OpenIs at h
    unfold openX openN openE
    cases ho : openL l with
    | none => rw [ho] at h; obtain ⟨rfl, hE⟩ := h; exact ⟨_, _, rfl, Sl.nil _ _, hE⟩
    | some y => rw [ho] at h; obtain ⟨v', rfl, hb, hE⟩ := h; obtain ⟨A, c, rfl, _⟩ := hb.shape; exact ⟨_, _, rfl, hb, hE⟩
theorem ref_open_all (v : Value) (l : List UInt8) (S : BS) (w : World) (hv : BytesS w S v l) :
    Calls Try.prog 12 #[v] w fun e w' => ∃ A c, e = .returned (.tuple #[.slice A (openX l).length c, .int .i64 (openN l : Int), .int .i64 (openE l : Int)]) ∧ BytesS w' (fun k => w.heap.size ≤ k) (.slice A (openX l).length c) (openX l) ∧ Ext w w' :=
  (ref_open v l S w hv).mono fun e w' h => by
    unfold RefOpenIs at h
    unfold openX openN openE
    cases ho : openL l with
    | none => rw [ho] at h; obtain ⟨rfl, hE⟩ := h; exact ⟨_, _, rfl, Sl.nil _ _, hE⟩
    | some y => rw [ho] at h; obtain ⟨v', rfl, hb, hE⟩ := h; obtain ⟨A, c, rfl, _⟩ := hb.shape; exact ⟨_, _, rfl, hb, hE⟩

/-- A row of the call's own, its data in new blocks apart from it. -/
def OwnSafe (w0 w : World) (v : Value) (ms : List (List UInt8)) : Prop := ∃ S, Own EBytes w w0.heap.size TB S v ms ∧ ∀ k, S k → w0.heap.size ≤ k ∧ v.ownBlock ≠ some k

set_option maxRecDepth 100000 in
set_option maxHeartbeats 3200000 in
theorem ref_scan (v : Value) (b : List UInt8) (S : BS) (w : World) (hv : BytesS w S v b) (hbl : b.length ≤ 100000) :
    Calls Try.prog 14 #[v] w fun e w' => ∃ v', e = .returned (.tuple #[v', .int .i64 ((scanL b).2 : Int)]) ∧ Sl EBytes w' (fun k => w.heap.size ≤ k) v' (scanL b).1 ∧ Ext w w' := by
  obtain ⟨A, c, rfl, hlc, hcm⟩ := hv.shape
  unfold maxLen at hcm
  have HV := hid (bytes_any hv)
  have hfl := framesL_length b.length 0 b (Nat.le_refl _)
  have hsc := scan_frames b.length 0 b (Nat.le_refl _)
  have HSC := hid hsc
  clear hv hsc
  go_enter Try.func14, Try.ntmps14
  go_wp2
  go_loopw [4, 5] (fun o p wr => ∃ (ms : List (List UInt8)) (at_ : Nat), at_ ≤ b.length ∧ p = .int .i64 (at_ : Int) ∧ ms ++ (framesL at_ (b.drop at_)).map (·.2) = (scanL b).1 ∧ at_ + (scanL (b.drop at_)).2 = (scanL b).2 ∧ OwnSafe w wr o ms ∧ Ext w wr)
    (fun _ p _ => b.length - (intOf p).toNat)
  case atStart => exact ⟨[], 0, Nat.zero_le _, rfl, by simp [HSC.out.1], by simp, ⟨fun _ => False, Own.nil _ _ _ _, fun _ h => h.elim⟩, Keep.refl _ _⟩
  case round =>
    obtain ⟨ms, at_, hat, rfl, h1, h2, ⟨S2, ho, hS2⟩, hE⟩ := hrel
    obtain ⟨Ao, co, rfl, _, _⟩ := ho.shape
    obtain ⟨A4, hs4, hv4⟩ := tail_fact (P := Try.prog) EU8.ok ty_u8 (HV.out.more (S' := fun k => k < w.heap.size) EU8.ok (fun k h _ => h) |>.ext EU8.ok hE) (lo := at_) (a := (at_ : Int)) rfl hat
    have HO := hid ho
    have HS2 := hid hS2
    have HE := hid hE
    have H1 := hid h1
    have H2 := hid h2
    have HV4 := hid hv4
    clear ho hS2 hE h1 h2 hv4
    go_wp2_with fail
    have hml : ms.length ≤ b.length := by
      have e1 := congrArg List.length H1.out
      have e2 := congrArg List.length HSC.out.1
      rw [List.length_append] at e1
      rw [List.length_map] at e2
      omega
    refine (ref_open _ _ _ _ HV4.out).mono ?_
    rintro e w1 h
    unfold RefOpenIs at h
    cases hop : openL (b.drop at_) with
    | none =>
      rw [hop] at h
      obtain ⟨rfl, hE1⟩ := h
      have hf1 : ms = (scanL b).1 := by have := H1.out; rw [framesL_none _ hop] at this; simpa using this
      have hf2 : at_ = (scanL b).2 := by have := H2.out; rw [scanL_none hop] at this; simpa using this
      have HF1 := hid hf1
      have HF2 := hid hf2
      have HE1 := hid hE1
      have HR := hid (((HO.out.ext EBytes.ok hE1).sl EBytes.ok).more (S' := fun k => w.heap.size ≤ k) EBytes.ok fun k _ h => by
        rcases h with h | h
        · exact (HS2.out k h).1
        · exact (HO.out.lt h).1)
      clear hf1 hf2 hE1 hop hs4
      go_wp2
      go_ret2
      refine ⟨.slice Ao ms.length co, by rw [← HF2.out]; rfl, ?_, HE.out.ext HE1.out⟩
      rw [← HF1.out]; exact HR.out
    | some x =>
      rw [hop] at h
      obtain ⟨vx, rfl, hx, hE1⟩ := h
      obtain ⟨Ax, cx, rfl, _, _⟩ := hx.shape
      have hxl := (openL_length hop).1
      rw [List.length_drop] at hxl
      have hpl : at_ + (8 + x.length) ≤ b.length := by omega
      have hf1 : (ms ++ [x]) ++ (framesL (at_ + (8 + x.length)) (b.drop (at_ + (8 + x.length)))).map (·.2) = (scanL b).1 := by
        have := H1.out; rw [framesL_some _ hop, List.drop_drop] at this; simpa using this
      have hf2 : (at_ + (8 + x.length)) + (scanL (b.drop (at_ + (8 + x.length)))).2 = (scanL b).2 := by
        have := H2.out; rw [scanL_some hop, List.drop_drop] at this; simp only at this; omega
      have HF1 := hid hf1
      have HF2 := hid hf2
      obtain ⟨W1, hW1⟩ : ∃ W1, w1.alloc (.cells #[.slice Ax x.length cx] TB) = W1 := ⟨_, rfl⟩
      have hE2 : Ext w1 W1 := by rw [← hW1]; exact (Keep.refl _ _).alloc _
      have hzz : W1.heap.size = w1.heap.size + 1 := by rw [← hW1]; simp
      have hrow : RowS W1 (fun k => k = w1.heap.size) 1 (.slice (some ⟨w1.heap.size, 0, none⟩) 1 1) 1 [.slice Ax x.length cx] := by
        rw [← hW1]; exact RowS.new (w := w1) (t := TB) (sz := 1) (cs := [.slice Ax x.length cx]) (n := 1) rfl (by simp [maxLen])
      have hx2 := (hx.ext EU8.ok hE2).more (S' := fun k => wr.heap.size ≤ k ∧ k < W1.heap.size) EU8.ok fun k h1 h2 => ⟨h2, h1⟩
      have ho2 := (HO.out.ext EBytes.ok (hE1.ext hE2)).more (S' := fun k => S2 k ∧ k < W1.heap.size) EBytes.ok fun k h1 h2 => ⟨h2, h1⟩
      have hz1 := hE1.size
      have HE1 := hid hE1
      have HW1 := hid hW1
      have HX2 := hid hx2
      have HO2 := hid ho2
      have HRW := hid hrow
      have HLT := hid (fun g (e : (Value.slice Ao ms.length co).ownBlock = some g) => HO.out.lt e)
      clear hf1 hf2 hE1 hop hs4 hx hx2 ho2 hrow hW1 hE2
      go_wp2_with (at_builtin; refine wpList_own_append2 (P := Try.prog) (E := EBytes) (v := .slice Ao ms.length co) (ys := [x]) _ rfl (.tmp 21) (.tmp 23) EBytes.ok ty_bytes rfl rfl rfl (HW1.out ▸ HO2.out) (HW1.out ▸ HRW.out) (Cells.single ⟨_, rfl, HW1.out ▸ HX2.out⟩) ?f1 ?f2 ?f3 ?f4 ?_)
      case f1 => exact fun g hg => ⟨fun h => (HS2.out g h.1).2 hg, fun h => by have := (HLT.out g hg).2; have := h.1; omega⟩
      case f2 => simp only [List.length_singleton]; omega
      case f3 => simp only [List.length_singleton, maxLen]; omega
      case f4 => have := HE.out.size; simp; omega
      intro v2 w2 hown2 hk2 hb2
      rw [HW1.out] at hk2
      have hzz' : w1.heap.size + 1 = W1.heap.size := hzz.symm
      have hb3 : v2.ownBlock = (Value.slice Ao ms.length co).ownBlock ∨ v2.ownBlock = some (w1.heap.size + 1) := by
        rcases hb2 with h | h
        · exact .inl h
        · right; rw [h]
      obtain ⟨A2, c2, rfl, _⟩ := hown2.shape
      have hsafe : OwnSafe w w2 (.slice A2 (ms ++ [x]).length c2) (ms ++ [x]) := by
        refine ⟨_, hown2.more (S' := fun k => (S2 k ∧ k < w1.heap.size + 1) ∨ (wr.heap.size ≤ k ∧ k < w1.heap.size + 1)) EBytes.ok fun k _ h => ?_, fun k hk => ?_⟩
        · rcases h with h | h
          · exact .inl ⟨h.1, by have := h.2; omega⟩
          · exact .inr ⟨h.1, by have := h.2; omega⟩
        · have hes := HE.out.size
          refine ⟨?_, fun e => ?_⟩
          · rcases hk with h | h
            · exact (HS2.out k h.1).1
            · have := h.1; omega
          · rcases hb3 with h | h
            · rw [h] at e
              rcases hk with hk | hk
              · exact (HS2.out k hk.1).2 e
              · have := (HLT.out k e).2; have := hk.1; omega
            · rw [h] at e; injection e with e
              rcases hk with hk | hk
              · have := hk.2; omega
              · have := hk.2; omega
      have HSF := hid hsafe
      have HEF := hid ((HE.out.ext HE1.out).trans (Keep.trans (F := fun k => (Value.slice Ao ms.length co).ownBlock = some k) (by rw [← HW1.out]; exact (Keep.refl _ _).alloc _) hk2 fun _ _ h => h) fun k hk h => by have := (HLT.out k h).1; omega)
      rw [show (ms ++ [x]).length = ms.length + 1 from by simp] at HSF ⊢
      clear hown2 hk2 hb2 hb3 hsafe HRW HX2 HO2
      go_wp2
      exact ⟨⟨ms ++ [x], at_ + (8 + x.length), hpl, by go_num, HF1.out, HF2.out, HSF.out, HEF.out⟩, by simp [intOf]; omega⟩

set_option maxHeartbeats 1600000 in
theorem same12_yes (w : World) (S S' : BS) (va vb : Value) (ls : List (List UInt8)) (ha : Sl EBytes w S va ls) (hb : Sl EBytes w S' vb ls) :
    Calls Try.prog 15 #[va, vb] w fun e w' => e = .returned (.bool true) ∧ Ext w w' := by
  obtain ⟨A, ca, rfl, hla, hca⟩ := ha.shape
  obtain ⟨B, cb, rfl, hlb, hcb⟩ := hb.shape
  unfold maxLen at hca hcb
  have HA := hid ha
  have HB := hid hb
  generalize hn : ls.length = n at *
  have HN := hid hn
  clear ha hb hn
  go_enter Try.func15, Try.ntmps15
  go_wp2
  go_loopw [5] (fun i wr => ∃ j : Nat, j ≤ n ∧ i = .int .i64 j ∧ Ext w wr) (fun i _ => n - (intOf i).toNat)
  case atStart => exact ⟨0, by omega, rfl, Keep.refl _ _⟩
  case round =>
    obtain ⟨j, hj, rfl, hE⟩ := hrel
    by_cases hlt : j < n
    · have hjm : j < ls.length := by rw [HN.out]; exact hlt
      obtain ⟨b1, o1, c1, rfl, _, _, ⟨v1, rfl, hv1⟩, hc1⟩ := (HA.out.ext EBytes.ok hE).at_ EBytes.ok hjm
      obtain ⟨b2, o2, c2, rfl, _, _, ⟨v2, rfl, hv2⟩, hc2⟩ := (HB.out.ext EBytes.ok hE).at_ EBytes.ok hjm
      generalize hm : ls[j]'hjm = m at *
      have e0 := hc1 0 _ rfl
      have f0 := hc2 0 _ rfl
      simp only [show EBytes.size = 1 from rfl, Nat.mul_one, Nat.add_zero] at e0 f0
      obtain ⟨A1, d1, rfl, _⟩ := hv1.shape
      obtain ⟨A2, d2, rfl, _⟩ := hv2.shape
      have HE := hid hE
      clear hc1 hc2 hm hE
      go_wp2
      refine wp_region_grow (specOf []) (fun w' => Ext wr w') stable_nil (stableC_ext _) (by kernel_rfl) (by kernel_rfl) (Keep.drew (Keep.refl _ _)) ?_
      iterate 11
        (try simp only [Act.put, List.setIfInBounds_toArray, List.set_cons_zero, List.set_cons_succ])
        refine grow_run rfl rfl rfl ?_
        apply Exists.intro
        refine ⟨fun w' hC hK => ?_, ?_⟩
        · have e0 := (hC.cell (lt_of_cell e0) id).trans e0
          have f0 := (hC.cell (lt_of_cell f0) id).trans f0
          have hcv1 := convert_bytesS (BytesS.keep' hv1 hC fun _ _ h => h)
          have hcv2 := convert_bytesS (BytesS.keep' hv2 hC fun _ _ h => h)
          go_simp
          rfl
      refine grow_nil fun w' hC _ => ?_
      have HE := hid (HE.out.ext hC)
      clear hv1 hv2 hC e0 f0
      go_wp2
      exact ⟨⟨j + 1, by omega, by go_num, HE.out⟩, by simp [intOf]; omega⟩
    · obtain rfl : j = n := by omega
      have HE := hid hE
      clear hE
      go_wp2
      go_ret
      exact ⟨rfl, HE.out⟩
end Go.Proofs.Ytpebphkceipfbaa
