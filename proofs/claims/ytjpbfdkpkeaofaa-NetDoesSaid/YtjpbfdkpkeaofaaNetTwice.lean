/- Package net: Twice. -/
import Derived.Test.YtjpbfdkpkeaofaaNetLate0
import Derived.Test.YtjpbfdkpkeaofaaInsertMail
set_option linter.unusedSimpArgs false
set_option linter.unusedVariables false
namespace Go.Proofs.Ytjpbfdkpkeaofaa
open Go.RowKit
set_option linter.unusedVariables false

/-- A slice of one element in a block of its own. -/
def OneMail (w : World) (S : BS) (v : Value) (m : Mail) (base : Nat) : Prop := ∃ vb bv, v = .slice (some ⟨vb, 0, none⟩) 1 1 ∧ base ≤ vb ∧ Blk w vb TMAIL #[.int .i64 m.sess, .bool m.up, bv] ∧ BytesS w S bv m.b
theorem OneMail.ext {w w' : World} {S : BS} {v : Value} {m : Mail} {base : Nat} (h : OneMail w S v m base) (he : Ext w w') : OneMail w' S v m base := by
  obtain ⟨vb, bv, h1, h2, h3, h4⟩ := h
  exact ⟨vb, bv, h1, h2, h3.keep he id, h4.ext EU8.ok he⟩

theorem twice_no (w : World) (S : BS) (bn : Nat) (g : Option Nat) (ms : List Mail) (i : Int) (h : NetAt w S bn g ms) (hi : i < 0 ∨ (ms.length : Int) ≤ i) :
    Calls Try.prog 16 #[.pointer (some ⟨bn, 0, none⟩), .int .i64 i] w fun e w' => e = .returned (.bool false) ∧ w = w' := by
  go_enter Try.func16, Try.ntmps16
  go_wp2_with fail
  refine (lacks_ok _ _ _ _ _ _ true h (by simpa using hi)).mono ?_
  rintro e w2 ⟨rfl, rfl⟩
  go_wp2
  go_ret
  exact ⟨rfl, rfl⟩
theorem twice_full (w : World) (S : BS) (bn : Nat) (g : Option Nat) (ms : List Mail) (i : Nat) (h : NetAt w S bn g ms) (hi : i < ms.length) (h2 : 2000 ≤ ms.length) :
    Calls Try.prog 16 #[.pointer (some ⟨bn, 0, none⟩), .int .i64 (i : Int)] w fun e w' => e = .returned (.bool false) ∧ w = w' := by
  go_enter Try.func16, Try.ntmps16
  go_wp2_with fail
  refine (lacks_ok _ _ _ _ _ _ false h (by simp; omega)).mono ?_
  rintro e w2 ⟨rfl, rfl⟩
  go_wp2_with fail
  refine (full_ok _ _ _ _ _ true h (by simpa using h2)).mono ?_
  rintro e w2 ⟨rfl, rfl⟩
  go_wp2
  go_ret
  exact ⟨rfl, rfl⟩

set_option maxHeartbeats 1600000 in
theorem twice_yes (w : World) (S : BS) (bn : Nat) (g : Option Nat) (ms : List Mail) (i : Nat) (h : NetAt w S bn g ms) (hi : i < ms.length) (h2 : ms.length < 2000) (hb6 : ms[i].b.length ≤ 60000) :
    Calls Try.prog 16 #[.pointer (some ⟨bn, 0, none⟩), .int .i64 (i : Int)] w fun e w' =>
      e = .returned (.bool true) ∧ ∃ g', NetAt w' (SNew w S g') bn g' (ms.take (i + 1) ++ ms[i] :: ms.drop (i + 1)) ∧ (g' = g ∨ ∃ k, g' = some k ∧ w.heap.size ≤ k) ∧ Keep (NF bn g) w w' := by
  obtain ⟨va, hb, hg, hown, hSb, hSg⟩ := h.cutS
  have HCUT := hid h.cutS
  obtain ⟨gb, cap, rfl, hgb, hgb2, hlc, hcm⟩ := hown.form (by omega)
  obtain rfl : some gb = g := hg
  have hSgb := hSg gb rfl
  have d0 := hb.cell 0
  have d1 := hb.frozen 0
  simp at d0
  obtain ⟨c0, hrd, hcell⟩ := hown.at_ EMail.ok hi
  generalize hm : ms[i] = m at *
  obtain ⟨bv, rfl, hbv⟩ := hrd
  have e0 := hcell 0 _ rfl
  have e1 := hcell 1 _ rfl
  have e2 := hcell 2 _ rfl
  have hz3 : EMail.size = 3 := rfl
  simp only [hz3] at e0 e1 e2
  rw [Nat.add_zero] at e0
  obtain ⟨A, c, rfl, _⟩ := hbv.shape
  unfold maxLen at hcm
  have hblt := hb.lt
  have HBV := hid hbv
  have HO := hid hown
  have HB := hid hb
  have HSGB := hid hSgb
  have HSB := hid hSb
  have HM := hid hm
  clear hz3 hcell hSg hbv hown hb hSgb hSb hm
  have hii : (i : Int) < (ms.length : Int) := by omega
  have hwr : IntKind.i64.wrap ((i : Int) + 1) = (i : Int) + 1 := IntWalk.i64_in _ (by omega)
  go_enter Try.func16, Try.ntmps16
  go_wp2_with fail
  refine (lacks_ok _ _ _ _ _ _ false h (by simp; omega)).mono ?_
  rintro e w2 ⟨rfl, rfl⟩
  go_wp2_with fail
  refine (full_ok _ _ _ _ _ false h (by simpa using h2)).mono ?_
  rintro e w2 ⟨rfl, rfl⟩
  clear h
  go_wp2_with fail
  refine wp_region_parts [0, 1, 2, 3, 5, 6, 7, 8, 9, 11] [4, 10, 12, 13, 14, 15] [16, 17, 18, 19] (specOf [(14, fun v w' => ∃ bv', v = .agg #[.int .i64 m.sess, .bool m.up, bv'] ∧ BytesS w' (fun k => w.heap.size ≤ k) bv' m.b), (15, fun v w' => OneMail w' (fun k => w.heap.size ≤ k) v m w.heap.size)])
    (fun w' => Ext w w') ?_ (stableC_ext _) (by kernel_rfl) (by kernel_rfl) (Keep.drew (Keep.refl _ _)) ?_
  · exact stable_cons (fun v w w' ⟨b, h1, h2⟩ he => ⟨b, h1, h2.ext EU8.ok he⟩) (stable_cons (fun v w w' h he => h.ext he) stable_nil)
  iterate 10
    (try simp only [Act.put, List.setIfInBounds_toArray, List.set_cons_zero, List.set_cons_succ])
    refine pure_run rfl rfl ?_
    apply Exists.intro
    refine ⟨fun w' => ?_, ?_⟩
    · go_simp
      rfl
  refine pure_nil ?_
  iterate 4
    (try simp only [Act.put, List.setIfInBounds_toArray, List.set_cons_zero, List.set_cons_succ])
    refine growP_run rfl rfl rfl ?_
    apply Exists.intro
    refine ⟨fun w' hC hK => ?_, ?_⟩
    · have d0 := (hC.cell (lt_of_cell d0) id).trans d0
      have e0 := (hC.cell (lt_of_cell e0) id).trans e0
      have e1 := (hC.cell (lt_of_cell e1) id).trans e1
      have e2 := (hC.cell (lt_of_cell e2) id).trans e2
      go_simp
      rfl
  (try simp only [Act.put, List.setIfInBounds_toArray, List.set_cons_zero, List.set_cons_succ])
  refine growP_eff rfl rfl rfl (fun w' hC hK => ?_) (fun v6 hv6 => ?_)
  · unfold growAt
    go_simp
    refine grow_call ((clone_mail _ _ _ _ _ _ (HBV.out.ext EU8.ok hC) (by omega)).mono fun e w'' ⟨b', h1, h2, h3⟩ => ⟨_, h1, h3, b', rfl, h2.more EU8.ok fun k _ h => by have := hC.size; omega⟩)
  obtain ⟨_, _, b6, rfl, _⟩ := hv6.head
  (try simp only [Act.put, List.setIfInBounds_toArray, List.set_cons_zero, List.set_cons_succ])
  refine growP_eff rfl rfl rfl (fun w' hC hK => ?_) (fun v7 hv7 => ?_)
  · unfold growAt
    go_simp
    obtain ⟨b', e, hb'⟩ := hK.get (i := 14) List.mem_cons_self (by kernel_rfl)
    have hb6 : BytesS w' (fun k => w.heap.size ≤ k) b6 m.b := by
      simp only [Value.agg.injEq] at e
      simp at e
      rw [e]; exact hb'
    have hz := hC.size
    exact ⟨(Keep.refl _ _).alloc _, _, b6, rfl, hz, Blk.new _ _ _, hb6.ext EU8.ok ((Keep.refl _ _).alloc _)⟩
  obtain ⟨_, _, vb, bv7, rfl, _⟩ := hv7.head
  refine growP_nil fun w3 hC hK => ?_
  obtain ⟨vb', bv', e7, f1, f2, f3⟩ : OneMail w3 (fun k => w.heap.size ≤ k) (.slice (some ⟨vb, 0, none⟩) 1 1) m w.heap.size := hK (15, _) List.mem_cons_self
  obtain rfl : vb = vb' := by injection e7 with e7; injection e7 with e7; injection e7
  have HC := hid (show Ext w w3 from hC)
  have HF2 := hid f2
  have HF3 := hid f3
  clear hC hK hv6 hv7 e7 f2 f3 d0 d1 e0 e1 e2 hwr
  change wpList _ _ _ (_ :: _ :: _ :: _ :: []) _ _
  (try simp only [Act.put, List.setIfInBounds_toArray, List.set_cons_zero, List.set_cons_succ])
  go_wp2_with fail
  rw [show ((i : Int) + 1) = ((i + 1 : Nat) : Int) from by omega]
  have hzC := HC.out.size
  have hO3 := HO.out.ext EMail.ok HC.out
  refine (insert_mail w3 (bn + 1) (fun k => S k ∧ k < w.heap.size) (fun k => w.heap.size ≤ k ∧ k < w3.heap.size) _ _ ms m (i + 1) vb [.int .i64 m.sess, .bool m.up, bv'] hO3 rfl HF2.out ⟨bv', rfl, HF3.out.more EU8.ok fun k h1 h2 => ⟨h2, h1⟩⟩ (by omega) (fun g e => ?_) (by omega) (by omega)).mono ?_
  · obtain rfl : gb = g := Option.some.inj e
    exact ⟨HSGB.out, by omega, by omega⟩
  rintro e w4 ⟨v4, rfl, ho4, hk4, hb4⟩
  obtain ⟨A4, c4, rfl, _⟩ := ho4.shape
  have hl4 : (ms.take (i + 1) ++ m :: ms.drop (i + 1)).length = ms.length + 1 := by simp; omega
  obtain ⟨ms4, hms4⟩ : ∃ ms4, ms4 = ms.take (i + 1) ++ m :: ms.drop (i + 1) := ⟨_, rfl⟩
  rw [← hms4] at ho4 hb4 hl4 ⊢
  rw [hl4] at ho4 hb4 ⊢
  have HMS := hid hms4
  clear hms4
  have hgb' : ∀ k, (Value.slice (some ⟨gb, 0, none⟩) ms.length cap).ownBlock = some k → k = gb := fun k e => (Option.some.inj e).symm
  have hbk : Blk w4 bn TNET #[.slice (some ⟨gb, 0, none⟩) ms.length cap] := (HB.out.keep HC.out id).keep hk4 (fun e => by have := hgb' bn e; omega)
  have q0 := hbk.cell 0
  have q1 := hbk.frozen 0
  simp at q0
  have hz4 := hk4.size
  have hgn : ∀ k, (Value.slice A4 (ms.length + 1) c4).ownBlock = some k → k = gb ∨ w.heap.size ≤ k := fun k e => by
    rcases hb4 with h9 | ⟨k', h9, h10⟩
    · rw [h9] at e; exact .inl (hgb' k e)
    · rw [h9] at e; injection e with e; right; omega
  have hgn' : ∀ k, (Value.slice A4 (ms.length + 1) c4).ownBlock = some k → k = gb ∨ w3.heap.size ≤ k := fun k e => by
    rcases hb4 with h9 | ⟨k', h9, h10⟩
    · rw [h9] at e; exact .inl (hgb' k e)
    · rw [h9] at e; injection e with e; right; omega
  have hnet : NetAt (w4.setCell ⟨bn, 0, none⟩ (.slice A4 (ms.length + 1) c4)) (SNew w S (Value.slice A4 (ms.length + 1) c4).ownBlock) bn (Value.slice A4 (ms.length + 1) c4).ownBlock ms4 := by
    have hkk : Keep (fun k => k = bn) w4 (w4.setCell ⟨bn, 0, none⟩ (.slice A4 (ms.length + 1) c4)) := (Keep.refl _ _).set1 0 _
    refine ⟨_, hbk.set_ 0 _, rfl, ((ho4.keep EMail.ok hkk ?_ ?_).more EMail.ok ?_), ?_, ?_⟩
    · rintro k (hh | hh) e9
      · subst e9; exact HSB.out hh
      · omega
    · exact fun k e e2 => by have := hgn k e; omega
    · rintro k _ (h | h)
      · exact .inl h
      · refine .inr ⟨h.1, fun e => ?_⟩
        rcases hgn' k e with rfl | h9
        · omega
        · omega
    · rintro (h | h)
      · exact HSB.out h
      · have := h.1; omega
    · rintro k e (h | h)
      · rcases hgn k e with rfl | h9
        · exact HSGB.out h
        · omega
      · exact h.2 e
  have hkeep : Keep (NF bn (some gb)) w (w4.setCell ⟨bn, 0, none⟩ (.slice A4 (ms.length + 1) c4)) := by
    have k1 : Keep (NF bn (some gb)) w w4 := (Keep.mono (G := NF bn (some gb)) HC.out (fun _ _ x => x.elim)).trans hk4 (fun k _ e => .inr (by rw [hgb' k e]))
    exact k1.setAt (fun _ => .inl rfl) 0 _
  have hres : (Value.slice A4 (ms.length + 1) c4).ownBlock = some gb ∨ ∃ k, (Value.slice A4 (ms.length + 1) c4).ownBlock = some k ∧ w.heap.size ≤ k := by
    rcases hb4 with h9 | ⟨k', h9, h10⟩
    · exact .inl h9
    · exact .inr ⟨_, h9, by omega⟩
  have H := hid (⟨_, hnet, hres, hkeep⟩ : ∃ g', NetAt (w4.setCell ⟨bn, 0, none⟩ (.slice A4 (ms.length + 1) c4)) (SNew w S g') bn g' ms4 ∧ (g' = some gb ∨ ∃ k, g' = some k ∧ w.heap.size ≤ k) ∧ Keep (NF bn (some gb)) w (w4.setCell ⟨bn, 0, none⟩ (.slice A4 (ms.length + 1) c4)))
  clear hnet hres hkeep ho4 hb4 hgn hgn' hgb' hbk hO3
  go_wp2_with fail
  refine NoPanic.normal ?_
  go_wp2
  go_ret
  have := H.out
  rw [HMS.out] at this
  exact ⟨rfl, this⟩
end Go.Proofs.Ytjpbfdkpkeaofaa
