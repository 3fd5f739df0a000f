/- The reference's network: Take, Drop. -/
import Derived.Test.YtjpbfdkpkeaofaaRNetA
set_option linter.unusedSimpArgs false
set_option linter.unusedVariables false
namespace Go.Proofs.Ytjpbfdkpkeaofaa
open Go.RowKit
set_option linter.unusedVariables false

set_option maxHeartbeats 400000 in
theorem rtake_no (w : World) (S : BS) (bn : Nat) (g : Option Nat) (ms : List Mail) (i : Int) (h : RnAt w S bn g ms) (hi : i < 0 ∨ (ms.length : Int) ≤ i) :
    Calls Try.prog 24 #[.pointer (some ⟨bn, 0, none⟩), .int .i64 i] w fun e w' =>
      e = .returned (.tuple #[.agg #[.int .i64 0, .bool false, .slice none 0 0], .bool false]) ∧ Ext w w' := by
  have hE1 : Ext w (w.alloc (.cells #[.int .i64 0, .bool false, .slice none 0 0] TMAIL)) := (Keep.refl _ _).alloc _
  have hres : Blk (w.alloc (.cells #[.int .i64 0, .bool false, .slice none 0 0] TMAIL)) w.heap.size TMAIL #[.int .i64 0, .bool false, .slice none 0 0] := Blk.new _ _ _
  have hn1 := h.ext hE1
  have hz1 : (w.alloc (.cells #[.int .i64 0, .bool false, .slice none 0 0] TMAIL)).heap.size = w.heap.size + 1 := by simp
  have HI := hid hi
  clear hi h
  go_enter Try.func24, Try.ntmps24
  go_wp2_with fail
  generalize w.alloc (.cells #[.int .i64 0, .bool false, .slice none 0 0] TMAIL) = w1 at *
  refine (there_ok _ _ _ _ _ _ false hn1 (by have := HI.out; simp; omega)).mono ?_
  rintro e w2 ⟨rfl, rfl⟩
  have r0 := hres.cell 0
  have r1 := hres.cell 1
  have r2 := hres.cell 2
  have s0 := hres.frozen 0
  have s1 := hres.frozen 1
  have s2 := hres.frozen 2
  simp at r0 r1 r2
  have H := hid hE1
  clear hE1 hres hn1 hz1
  go_wp2
  refine bodyPost_ret (v := .tuple #[.agg #[.int .i64 0, .bool false, .slice none 0 0], .bool false]) (by simp [results, Try.results24, go_sem, r0, r1, r2]) rfl ⟨rfl, ?_⟩
  exact H.out.trans ((((Keep.refl (fun k => k = w.heap.size) _).setAt (fun _ => rfl) _ _).setAt (fun _ => rfl) _ _).setAt (fun _ => rfl) _ _) (fun k hk e => by omega)

/-- The blocks of the data behind a call. -/
abbrev SOld (w : World) (S : BS) (g g' : Option Nat) : BS := fun k => (((S k ∨ g = some k) ∧ k < w.heap.size) ∨ w.heap.size ≤ k) ∧ g' ≠ some k
set_option maxHeartbeats 1600000 in
theorem rtake_yes (w : World) (S : BS) (bn : Nat) (g : Option Nat) (ms : List Mail) (i : Nat) (h : RnAt w S bn g ms) (hi : i < ms.length) (hm20 : ms.length ≤ 2000) :
    Calls Try.prog 24 #[.pointer (some ⟨bn, 0, none⟩), .int .i64 (i : Int)] w fun e w' =>
      ∃ bv g', e = .returned (.tuple #[.agg #[.int .i64 ms[i].sess, .bool ms[i].up, bv], .bool true]) ∧ BytesS w' (fun k => S k ∧ k < w.heap.size) bv ms[i].b ∧ RnAt w' (SOld w S g g') bn g' (ms.eraseIdx i) ∧ (g' = none ∨ ∃ k, g' = some k ∧ w.heap.size ≤ k) ∧ Keep (NF bn g) w w' := by
  have hbn := h.lt
  have hns := h.notS
  have hE1 : Ext w (w.alloc (.cells #[.int .i64 0, .bool false, .slice none 0 0] TMAIL)) := (Keep.refl _ _).alloc _
  have hres : Blk (w.alloc (.cells #[.int .i64 0, .bool false, .slice none 0 0] TMAIL)) w.heap.size TMAIL #[.int .i64 0, .bool false, .slice none 0 0] := Blk.new _ _ _
  have hn1 := h.cutS.ext hE1
  have hz1 : (w.alloc (.cells #[.int .i64 0, .bool false, .slice none 0 0] TMAIL)).heap.size = w.heap.size + 1 := by simp
  generalize hm : ms[i] = m
  have HE1 := hid hE1
  have HM := hid hm
  have HZ := hid hz1
  clear hE1 hm hz1 h
  go_enter Try.func24, Try.ntmps24
  go_wp2_with fail
  generalize w.alloc (.cells #[.int .i64 0, .bool false, .slice none 0 0] TMAIL) = w1 at *
  refine (there_ok _ _ _ _ _ _ true hn1 (by simp; omega)).mono ?_
  rintro e w2 ⟨rfl, rfl⟩
  obtain ⟨va, hb, hg, hown, hSb, hSg⟩ := hn1
  obtain ⟨gb, cap, rfl, hgb, hgb2, hlc, hcm⟩ := hown.form (by omega)
  obtain rfl : some gb = g := hg
  have d0 := hb.cell 0
  simp at d0
  obtain ⟨c0, hrd, hcell⟩ := hown.at_ EMail.ok hi
  rw [HM.out] at hrd
  obtain ⟨bv, rfl, hbv⟩ := hrd
  have e0 := hcell 0 _ rfl
  have e1 := hcell 1 _ rfl
  have e2 := hcell 2 _ rfl
  have hz3 : EMail.size = 3 := rfl
  simp only [hz3] at e0 e1 e2
  rw [Nat.add_zero] at e0
  obtain ⟨A, c, rfl, _⟩ := hbv.shape
  unfold maxLen at hcm
  clear hz3 hcell
  have hE2 : Ext w1 (w1.alloc (.cells #[.int .i64 m.sess, .bool m.up, .slice A m.b.length c] TMAIL)) := (Keep.refl _ _).alloc _
  have hbox : Blk (w1.alloc (.cells #[.int .i64 m.sess, .bool m.up, .slice A m.b.length c] TMAIL)) w1.heap.size TMAIL #[.int .i64 m.sess, .bool m.up, .slice A m.b.length c] := Blk.new _ _ _
  have hz2 : (w1.alloc (.cells #[.int .i64 m.sess, .bool m.up, .slice A m.b.length c] TMAIL)).heap.size = w1.heap.size + 1 := by simp
  obtain ⟨w2, hw2⟩ : ∃ w2, w1.alloc (.cells #[.int .i64 m.sess, .bool m.up, .slice A m.b.length c] TMAIL) = w2 := ⟨_, rfl⟩
  rw [hw2] at hE2 hbox hz2
  have HSL := hid ((hown.sl EMail.ok).ext EMail.ok hE2)
  have HE2 := hid hE2
  have HZ2 := hid hz2
  have HBX := hid hbox
  have HRS := hid (hres.keep hE2 id)
  have HB2 := hid (hb.keep hE2 id)
  have HBV := hid (hbv.ext EU8.ok hE2)
  have HW2 := hid hw2
  have HBN := hid hbn
  have HNS := hid hns
  have hd2 := (hE2.cell (lt_of_cell d0) id).trans d0
  obtain ⟨hsf, hvf⟩ := front_fact (P := Try.prog) EMail.ok ty_mail HSL.out (hi := i) (b := (i : Int)) rfl (by omega)
  obtain ⟨A4, hst, hvt⟩ := tail_fact (P := Try.prog) EMail.ok ty_mail HSL.out (lo := i + 1) (a := (i : Int) + 1) (by omega) (by omega)
  have hfl : (ms.take i).length = i := by rw [List.length_take]; omega
  have htl : (ms.drop (i + 1)).length = ms.length - (i + 1) := by rw [List.length_drop]
  have HVF := hid hvf
  have HVT := hid hvt
  clear hE2 hbox hz2 hres hb hown hvf hvt hbn hns hbv hSb hSg
  go_wp2_with (at_builtin; refine wpList_own_append (E := EMail) (ys := ms.take i) _ rfl (.tmp 20) (.tmp 26) EMail.ok ty_mail rfl rfl rfl (Own.nil _ w2.heap.size _ (fun _ => False)) HVF.out ?c1 ?c2 ?c3 ?c4 ?_)
  case c1 => intro g hg; cases hg
  case c2 => rw [hfl]; simp; omega
  case c3 => rw [hfl]; simp [maxLen]; omega
  case c4 => exact Nat.le_refl _
  intro v5 w5 ho5 hk5 hb5
  obtain ⟨A5, c5, e5, hc5, _⟩ := ho5.shape
  rw [hfl] at e5
  subst e5
  have HE5 := hid (show Ext w2 w5 from hk5.mono fun q _ e => by cases e)
  have HO5 := hid (ho5.more (S' := fun k => (S k ∧ k < w.heap.size) ∨ k = gb) EMail.ok fun q _ h => by
    have h : (S q ∧ q < w.heap.size) ∨ some gb = some q := by first | exact h | exact Or.elim h (fun h => h.elim) id
    exact h.imp id fun h => (Option.some.inj h).symm)
  have HT5 := hid ((HVT.out.ext EMail.ok HE5.out).more (S' := fun k => (S k ∧ k < w.heap.size) ∨ k = gb) EMail.ok fun q _ h => by
    have h : (S q ∧ q < w.heap.size) ∨ some gb = some q := h
    exact h.imp id fun h => (Option.some.inj h).symm)
  have HL5 := hid (fun g (e : (Value.slice A5 i c5).ownBlock = some g) => (ho5.lt e).1)
  have hd5 := (HE5.out.cell (lt_of_cell hd2) id).trans hd2
  clear ho5 hk5 hb5 HVF hsf hw2 e0 e1 e2 d0 hd2
  go_wp2_with (at_builtin; refine wpList_own_append (E := EMail) (ys := ms.drop (i + 1)) _ rfl (.tmp 28) (.tmp 35) EMail.ok ty_mail rfl rfl rfl HO5.out HT5.out ?d1 ?d2 ?d3 ?d4 ?_)
  case d1 =>
    intro g hg
    have h1 := HL5.out g hg
    have h2 := HZ2.out
    have h3 := HZ.out
    have h4 : ¬ ((S g ∧ g < w.heap.size) ∨ g = gb) := fun h => by rcases h with h | h; have := h.2; omega; omega
    exact ⟨h4, h4⟩
  case d2 => rw [hfl, htl]; omega
  case d3 => rw [hfl, htl]; simp only [maxLen]; omega
  case d4 => exact HE5.out.size
  intro v6 w6 ho6 hk6 hb6
  obtain ⟨A6, c6, e6, hc6, _⟩ := ho6.shape
  have hl6 : (ms.take i ++ ms.drop (i + 1)).length = ms.length - 1 := by rw [List.length_append, hfl, htl]; omega
  rw [hl6] at e6
  subst e6
  have hK6 : Ext w2 w6 := HE5.out.trans hk6 fun q hq e => by have := HL5.out q e; omega
  have ho6' := (ho6.more (S' := fun k => (S k ∧ k < w.heap.size) ∨ k = gb) EMail.ok fun q _ h => by first | exact h | exact Or.elim h id id)
  rw [← List.eraseIdx_eq_take_drop_succ] at ho6'
  have HL6 := hid (fun g (e : (Value.slice A6 (ms.length - 1) c6).ownBlock = some g) => ho6.lt e)
  have HO6 := hid ho6'
  have HE6 := hid hK6
  have hB6 := HB2.out.keep hK6 id
  have hX6 := HBX.out.keep hK6 id
  have hR6 := HRS.out.keep hK6 id
  have HB6 := hid hB6
  have q0 := hB6.cell 0
  have q1 := hB6.frozen 0
  have x0 := hX6.cell 0
  have x1 := hX6.cell 1
  have x2 := hX6.cell 2
  have r0 := hR6.cell 0
  have r1 := hR6.cell 1
  have r2 := hR6.cell 2
  have s0 := hR6.frozen 0
  have s1 := hR6.frozen 1
  have s2 := hR6.frozen 2
  simp at q0 x0 x1 x2 r0 r1 r2
  have hbl := HBN.out.1
  have hz := HZ.out
  have hz2 := HZ2.out
  generalize hr : w.heap.size = r at *
  generalize hx : w1.heap.size = x at *
  have hrx : r < x := by omega
  have hne1 : bn ≠ r := by omega
  have hne2 : bn ≠ x := by omega
  have hne3 : r ≠ x := by omega
  obtain ⟨v3, hv3⟩ : ∃ v3, Value.slice A6 (ms.length - 1) c6 = v3 := ⟨_, rfl⟩
  rw [hv3] at HL6 HO6
  have hKF : Keep (fun k => k = bn ∨ k = r) w6 ((((w6.setCell ⟨bn, 0, none⟩ v3).setCell ⟨r, 0, none⟩ (.int .i64 m.sess)).setCell ⟨r, 1, none⟩ (.bool m.up)).setCell ⟨r, 2, none⟩ (.slice A m.b.length c)) :=
    ((((Keep.refl _ _).setAt (fun _ => .inl rfl) _ _).setAt (fun _ => .inr rfl) _ _).setAt (fun _ => .inr rfl) _ _).setAt (fun _ => .inr rfl) _ _
  have hbF : Blk ((((w6.setCell ⟨bn, 0, none⟩ v3).setCell ⟨r, 0, none⟩ (.int .i64 m.sess)).setCell ⟨r, 1, none⟩ (.bool m.up)).setCell ⟨r, 2, none⟩ (.slice A m.b.length c)) bn TRNET #[v3] :=
    (((HB6.out.set_ 0 v3).far hne1 _).far hne1 _).far hne1 _
  have hF : ∃ g', BytesS ((((w6.setCell ⟨bn, 0, none⟩ v3).setCell ⟨r, 0, none⟩ (.int .i64 m.sess)).setCell ⟨r, 1, none⟩ (.bool m.up)).setCell ⟨r, 2, none⟩ (.slice A m.b.length c)) (fun k => S k ∧ k < r) (.slice A m.b.length c) m.b ∧
      RnAt ((((w6.setCell ⟨bn, 0, none⟩ v3).setCell ⟨r, 0, none⟩ (.int .i64 m.sess)).setCell ⟨r, 1, none⟩ (.bool m.up)).setCell ⟨r, 2, none⟩ (.slice A m.b.length c)) (fun k => (((S k ∨ some gb = some k) ∧ k < r) ∨ r ≤ k) ∧ g' ≠ some k) bn g' (ms.eraseIdx i) ∧ (g' = none ∨ ∃ k, g' = some k ∧ r ≤ k) ∧
      Keep (NF bn (some gb)) w ((((w6.setCell ⟨bn, 0, none⟩ v3).setCell ⟨r, 0, none⟩ (.int .i64 m.sess)).setCell ⟨r, 1, none⟩ (.bool m.up)).setCell ⟨r, 2, none⟩ (.slice A m.b.length c)) := by
    have hgbr : gb ≠ r ∧ gb < r := by have := (HBN.out.2 gb rfl).2; omega
    have hgbn : bn < gb := by omega
    have hSF : ∀ k, ((S k ∧ k < r) ∨ k = gb) → ¬ (k = bn ∨ k = r) := fun k hs e => by
      rcases hs with hs | hs
      · rcases e with rfl | rfl
        · exact HNS.out.1 hs.1
        · omega
      · omega
    refine ⟨v3.ownBlock, ((HBV.out.ext EU8.ok HE6.out).keep EU8.ok hKF fun k hs => hSF k (.inl hs)), ⟨v3, hbF, rfl, ((HO6.out.keep EMail.ok hKF hSF fun k e => ?_).less (by omega)).more EMail.ok fun k _ hk => ?_, ?_, fun k e h => h.2 e⟩, ?_, ?_⟩
    · have := (HL6.out k e).1; omega
    · refine ⟨?_, fun e => ?_⟩
      · rcases hk with hk | hk
        · exact .inl ⟨.inl hk.1, hk.2⟩
        · exact .inl ⟨.inr (by rw [hk]), by omega⟩
      · have := (HL6.out k e).1
        rcases hk with hk | hk
        · have := hk.2; omega
        · omega
    · rintro ⟨(⟨h | h, _⟩ | h), _⟩
      · exact HNS.out.1 h
      · injection h with h; omega
      · omega
    · cases ho : v3.ownBlock with
      | none => exact .inl rfl
      | some k => exact .inr ⟨k, rfl, by have := (HL6.out k ho).1; omega⟩
    · have h1 := (HE1.out.ext HE2.out).ext HE6.out
      refine (h1.mono (G := NF bn (some gb)) fun _ _ x => x.elim).trans hKF fun k hk e => ?_
      rcases e with rfl | rfl
      · exact .inl rfl
      · omega
  have H := hid hF
  have HRR := hid hr
  clear hF hbF hKF ho6 ho6' hk6 hb6 hK6 hB6 hX6 hR6 HO6 HL6 HB6 HO5 HT5 HL5 HE5 HSL HVT HBV HBN HNS HB2 HBX HRS HE1 HE2 HE6 HZ HZ2 HW2 hr hx hz hz2 hd5 hst
  subst hv3
  go_wp2_with fail
  refine bodyPost_ret (v := .tuple #[.agg #[.int .i64 m.sess, .bool m.up, .slice A m.b.length c], .bool true]) (by simp [results, Try.results24, go_sem, r0, r1, r2, hne1]) rfl ?_
  obtain ⟨g', h1, h2, h3, h4⟩ := H.out
  have e := HRR.out
  subst e
  exact ⟨_, g', rfl, h1, h2, h3, h4⟩
end Go.Proofs.Ytjpbfdkpkeaofaa
