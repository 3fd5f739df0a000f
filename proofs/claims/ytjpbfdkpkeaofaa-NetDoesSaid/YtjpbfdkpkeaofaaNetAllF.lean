/- All: what it answers may be written. -/
import Derived.Test.YtjpbfdkpkeaofaaNetDoD
set_option linter.unusedSimpArgs false
set_option linter.unusedVariables false
namespace Go.Proofs.Ytjpbfdkpkeaofaa
open Go.RowKit
set_option linter.unusedVariables false

/-- A slice in a block that may be written. -/
def UnF (w : World) (bv : Value) : Prop := ∀ b o n c, bv = .slice (some ⟨b, o, none⟩) n c → 0 < n → ∃ t cur, Blk w b t cur
theorem UnF.keep {F : Nat → Prop} {w w' : World} {S : BS} {bv : Value} {l : List UInt8} (h : UnF w bv) (hb : BytesS w S bv l) (hk : Keep F w w') (hF : ∀ k, S k → ¬ F k) : UnF w' bv := by
  intro b o n c e h0
  obtain ⟨t, cur, h1⟩ := h b o n c e h0
  obtain ⟨cs, ⟨_, A, c', e2, _, _, h3⟩, _⟩ := hb
  subst e
  injection e2 with e3 e4 e5
  obtain ⟨b2, o2, e6, hS, _⟩ := h3 (by omega)
  rw [← e3] at e6
  injection e6 with e6
  injection e6 with e6 e7
  subst e6
  exact ⟨t, cur, h1.keep hk (hF b hS)⟩
theorem UnF.of_own {w : World} {base : Nat} {T : TypeId} {S : BS} {v : Value} {l : List UInt8} (h : Own EU8 w base T S v l) : UnF w v := by
  intro b o n c e h0
  rcases h with ⟨e2, _⟩ | ⟨g, cap, cur, e2, h1, h2, _⟩
  · rw [e] at e2; cases e2
  · rw [e] at e2
    injection e2 with e3
    injection e3 with e3
    injection e3 with e3
    subst e3
    exact ⟨T, cur, h2⟩
theorem UnF.none (w : World) (n c : Nat) : UnF w (.slice none n c) := fun b o n' c' e => by cases e
def EMailF : El Mail := { size := 3, rd := fun w S cs m => ∃ bv, cs = [.int .i64 m.sess, .bool m.up, bv] ∧ BytesS w S bv m.b ∧ UnF w bv }
theorem EMailF.ok : EMailF.Ok where
  pos := by decide
  len := fun ⟨_, h, _⟩ => by subst h; rfl
  one := fun ⟨bv, h, hs, _⟩ u hu => EMail.ok.one ⟨bv, h, hs⟩ u hu
  keep := fun ⟨bv, h, hs, hu⟩ hk hF => ⟨bv, h, hs.keep EU8.ok hk hF, hu.keep hs hk hF⟩
  more := fun ⟨bv, h, hs, hu⟩ hS => ⟨bv, h, hs.more EU8.ok fun k hk => hS k hk, hu⟩
set_option maxHeartbeats 400000 in
theorem clone_bytesF (v : Value) (l : List UInt8) (S : BS) (w : World) (hv : BytesS w S v l) (hl : l.length ≤ 140737488355328) :
    Calls Try.prog 33 #[v] w fun e w' => ∃ v', e = .returned v' ∧ BytesS w' (fun k => w.heap.size ≤ k) v' l ∧ UnF w' v' ∧ Ext w w' := by
  obtain ⟨A, c, rfl, h1, h2⟩ := hv.shape
  unfold maxLen at h2
  cases A with
  | none =>
    have hn : l = [] := by
      obtain ⟨cs, ⟨_, A', c', e, _, _, h3⟩, _⟩ := hv
      rcases Nat.eq_zero_or_pos l.length with h0 | h0
      · exact List.eq_nil_of_length_eq_zero h0
      · obtain ⟨b, off, e', _⟩ := h3 h0
        injection e with e1 _ _
        rw [e'] at e1
        cases e1
    subst hn
    have heq := Lib.run_eql_slice_nil (P := Try.prog) w 28 5 none 0 c 0 0 Try.underlying28
    rw [List.length_nil]
    go_enter Try.func33, Try.ntmps33
    go_wp2
    go_ret
    exact ⟨_, rfl, Sl.nil _ _, UnF.none _ _ _, Keep.refl _ _⟩
  | some a =>
    have heq := Lib.run_eql_slice_nil (P := Try.prog) w 28 5 (some a) l.length c 0 0 Try.underlying28
    have hown : Own EU8 (w.alloc (.cells #[] 5)) w.heap.size 5 (fun _ => False) (.slice (some ⟨w.heap.size, 0, none⟩) 0 0) [] :=
      .inr ⟨w.heap.size, 0, #[], rfl, Nat.le_refl _, Blk.new _ _ _, by simp, by simp [maxLen], by simp, rfl⟩
    have hsrc := (hv.more (S' := fun k => S k ∧ k < w.heap.size) EU8.ok (fun k hk hs => ⟨hs, hk⟩)).ext EU8.ok ((Keep.refl _ _).alloc (.cells #[] 5))
    go_enter Try.func33, Try.ntmps33
    go_wp2_with (at_builtin; refine wpList_own_append _ rfl (.tmp 5) (.tmp 6) EU8.ok ty_u8 rfl rfl rfl hown hsrc ?c1 ?c2 ?c3 ?c4 ?_)
    case c1 => intro g hg; have hg : w.heap.size = g := Option.some.inj hg; exact ⟨id, fun h => by have := h.2; omega⟩
    case c2 => simp; omega
    case c3 => simp [maxLen]; omega
    case c4 => simp
    intro v' w' hown' hk hb
    have hE : Ext w w' := ((Keep.refl (fun _ => False) w).alloc _).trans hk (fun k hlt e => by have e : w.heap.size = k := Option.some.inj e; omega)
    have hout : BytesS w' (fun k => w.heap.size ≤ k) v' l := by
      obtain ⟨cs, h1, h2⟩ := hown'.rowS EU8.ok
      refine ⟨cs, h1.more fun k _ e => (hown'.lt e).1, ?_⟩
      rw [cells_U8 h2]
      exact U8_cells _
    have H := hid hout
    have HU := hid (UnF.of_own hown')
    clear hout hown' hb hsrc hown
    go_wp2
    go_ret
    exact ⟨_, rfl, H.out, HU.out, hE⟩
set_option maxHeartbeats 400000 in
/-- 'net.clone'. -/
theorem clone_mailF (s : Int) (u : Bool) (bv : Value) (l : List UInt8) (S : BS) (w : World) (hv : BytesS w S bv l) (hl : l.length ≤ 140737488355328) :
    Calls Try.prog 20 #[.agg #[.int .i64 s, .bool u, bv]] w fun e w' => ∃ bv', e = .returned (.agg #[.int .i64 s, .bool u, bv']) ∧ BytesS w' (fun k => w.heap.size ≤ k) bv' l ∧ UnF w' bv' ∧ Ext w w' := by
  have hv1 := ((hv.more (S' := fun k => S k ∧ k < w.heap.size) EU8.ok (fun k hk hs => ⟨hs, hk⟩)).ext EU8.ok (((Keep.refl _ _).alloc (.cells #[.int .i64 s, .bool u, bv] TMAIL)).alloc (.cells #[.int .i64 0, .bool false, .slice none 0 0] TMAIL)))
  go_enter Try.func20, Try.ntmps20
  go_wp2_with fail
  refine (clone_bytesF _ _ _ _ hv1 hl).mono ?_
  rintro e w1 ⟨bv', rfl, hb', hu', hE1⟩
  have b1 : Blk w1 w.heap.size TMAIL #[.int .i64 s, .bool u, bv] := ((Blk.new w TMAIL _).alloc _).keep hE1 id
  have b2 : Blk w1 (w.heap.size + 1) TMAIL #[.int .i64 0, .bool false, .slice none 0 0] := by
    have h := (Blk.new (w.alloc (.cells #[.int .i64 s, .bool u, bv] TMAIL)) TMAIL #[.int .i64 0, .bool false, .slice none 0 0]).keep hE1 id
    simpa using h
  have hz := hE1.size
  simp at hz
  have c0 := b1.cell 0
  have c1 := b1.cell 1
  have c2 := b1.cell 2
  have f2 := b1.frozen 2
  have d0 := b2.cell 0
  have d1 := b2.cell 1
  have d2 := b2.cell 2
  have g0 := b2.frozen 0
  have g1 := b2.frozen 1
  have g2 := b2.frozen 2
  simp at c0 c1 c2 d0 d1 d2
  obtain ⟨A', c', rfl, _⟩ := hb'.shape
  have HB := hid (hb'.more (S' := fun k => w.heap.size + 2 ≤ k) EU8.ok (fun k _ h => by simp at h; omega))
  have HU := hid (hu'.keep (F := fun _ => False) hb' (Keep.refl _ _) fun _ _ x => x)
  have HB0 := hid hb'
  have HE := hid ((((Keep.refl (fun _ => False) w).alloc _).alloc _).ext hE1)
  clear hb' hu' hE1 hv1 hv b1 b2
  go_wp2
  have hK : Keep (fun k => w.heap.size ≤ k ∧ k < w.heap.size + 2) w1 ((((w1.setCell ⟨w.heap.size, 2, none⟩ (.slice A' l.length c')).setCell ⟨w.heap.size + 1, 0, none⟩ (.int .i64 s)).setCell ⟨w.heap.size + 1, 1, none⟩ (.bool u)).setCell ⟨w.heap.size + 1, 2, none⟩ (.slice A' l.length c')) :=
    ((((Keep.refl _ _).setAt (fun _ => by omega) _ _).setAt (fun _ => by omega) _ _).setAt (fun _ => by omega) _ _).setAt (fun _ => by omega) _ _
  refine bodyPost_ret (v := .agg #[.int .i64 s, .bool u, .slice A' l.length c']) (by simp [results, Try.results20, go_sem, d0, d1, d2]) rfl ⟨_, rfl, ?_, HU.out.keep HB.out hK (fun k h1 h2 => by omega), ?_⟩
  · exact (HB.out.keep EU8.ok hK (fun k h1 h2 => by omega)).more EU8.ok (fun k _ h => by omega)
  · exact HE.out.trans hK (fun k h1 h2 => by omega)
/-- All's rows as the loop goes: the first j have been cloned. -/
def AllAtF (w : World) (r g : Nat) (S : BS) (cap : Nat) (ms : List Mail) (j : Nat) : Prop :=
  ∃ cur, Blk w g TMAIL cur ∧ cur.size = cap * 3 ∧ Cells EMailF w (fun k => r ≤ k ∧ k ≠ g) (cur.toList.take (j * 3)) (ms.take j) ∧ Cells EMail w S ((cur.toList.take (ms.length * 3)).drop (j * 3)) (ms.drop j)

theorem AllAtF.cell {w : World} {r g : Nat} {S : BS} {cap : Nat} {ms : List Mail} {j : Nat} (h : AllAtF w r g S cap ms j) (hj : j < ms.length) :
    ∃ bv, w.cell? ⟨g, j * 3, none⟩ = some (.int .i64 ms[j].sess) ∧ w.cell? ⟨g, j * 3 + 1, none⟩ = some (.bool ms[j].up) ∧ w.cell? ⟨g, j * 3 + 2, none⟩ = some bv ∧ BytesS w S bv ms[j].b := by
  obtain ⟨cur, h1, h2, h3, h4⟩ := h
  rw [List.drop_eq_getElem_cons hj] at h4
  obtain ⟨c0, c1, e, ⟨bv, rfl, hb⟩, _⟩ := h4
  have key : ∀ i u, ([.int .i64 ms[j].sess, .bool ms[j].up, bv] : List Value)[i]? = some u → w.cell? ⟨g, j * 3 + i, none⟩ = some u := fun i u hu => by
    have e1 : ((cur.toList.take (ms.length * 3)).drop (j * 3))[i]? = some u := by
      rw [e, List.getElem?_append_left (List.getElem?_eq_some_iff.1 hu).1, hu]
    rw [List.getElem?_drop, List.getElem?_take] at e1
    split at e1
    · rw [h1.cell]; simpa using e1
    · cases e1
  exact ⟨bv, key 0 _ rfl, key 1 _ rfl, key 2 _ rfl, hb⟩
theorem AllAtF.ext {w w' : World} {r g : Nat} {S : BS} {cap : Nat} {ms : List Mail} {j : Nat} (h : AllAtF w r g S cap ms j) (he : Ext w w') : AllAtF w' r g S cap ms j := by
  obtain ⟨cur, h1, h2, h3, h4⟩ := h
  exact ⟨cur, h1.keep he id, h2, h3.keep EMailF.ok he (fun _ _ x => x), h4.keep EMail.ok he (fun _ _ x => x)⟩
theorem AllAtF.frozen {w : World} {r g : Nat} {S : BS} {cap : Nat} {ms : List Mail} {j : Nat} (h : AllAtF w r g S cap ms j) (i : Nat) : w.frozen? ⟨g, i, none⟩ = false := by
  obtain ⟨cur, h1, _⟩ := h; exact h1.frozen i
theorem AllAtF.lt {w : World} {r g : Nat} {S : BS} {cap : Nat} {ms : List Mail} {j : Nat} (h : AllAtF w r g S cap ms j) : g < w.heap.size := by
  obtain ⟨cur, h1, _⟩ := h; exact h1.lt
/-- One more. -/
theorem AllAtF.next {w : World} {r g : Nat} {S : BS} {cap : Nat} {ms : List Mail} {j : Nat} {bv : Value} (h : AllAtF w r g S cap ms j) (hj : j < ms.length) (hc : ms.length ≤ cap) (hS : ¬ S g)
    (hb : BytesS w (fun k => r ≤ k ∧ k ≠ g) bv ms[j].b) (hu : UnF w bv) :
    AllAtF (((w.setCell ⟨g, j * 3, none⟩ (.int .i64 ms[j].sess)).setCell ⟨g, j * 3 + 1, none⟩ (.bool ms[j].up)).setCell ⟨g, j * 3 + 2, none⟩ bv) r g S cap ms (j + 1) := by
  obtain ⟨cur, h1, h2, h3, h4⟩ := h
  have hK : Keep (fun k => k = g) w (((w.setCell ⟨g, j * 3, none⟩ (.int .i64 ms[j].sess)).setCell ⟨g, j * 3 + 1, none⟩ (.bool ms[j].up)).setCell ⟨g, j * 3 + 2, none⟩ bv) :=
    (((Keep.refl (fun k => k = g) w).set1 (j * 3) _).set1 (j * 3 + 1) _).set1 (j * 3 + 2) _
  have hl : cur.toList.length = cap * 3 := by simpa using h2
  have hs := set3 cur.toList (j * 3) (.int .i64 ms[j].sess) (.bool ms[j].up) bv (by rw [hl]; omega)
  refine ⟨_, ((h1.set_ _ _).set_ _ _).set_ _ _, by simpa using h2, ?_, ?_⟩
  · simp only [Array.toList_setIfInBounds]
    rw [hs, List.take_append_of_le_length (by simp [hl]; omega), List.take_of_length_le (by simp [hl]; omega)]
    rw [← List.take_append_getElem hj]
    exact (h3.keep EMailF.ok hK (fun k hk e => hk.2 e)).append (Cells.single ⟨bv, rfl, hb.keep EU8.ok hK (fun k hk e => hk.2 e), hu.keep hb hK (fun k hk e => hk.2 e)⟩)
  · simp only [Array.toList_setIfInBounds]
    rw [hs]
    have e1 : ((List.take (j * 3) cur.toList ++ [.int .i64 ms[j].sess, .bool ms[j].up, bv] ++ List.drop (j * 3 + 3) cur.toList).take (ms.length * 3)).drop ((j + 1) * 3) = ((cur.toList.take (ms.length * 3)).drop (j * 3)).drop 3 := by
      apply List.ext_getElem?
      intro i
      rw [List.getElem?_drop, List.getElem?_drop, List.getElem?_drop, List.getElem?_take, List.getElem?_take]
      rw [show (j + 1) * 3 + i = j * 3 + (3 + i) from by omega]
      split
      · rw [List.getElem?_append_right (by simp [hl]; omega)]
        rw [List.getElem?_drop]
        congr 1
        simp [hl]; omega
      · rfl
    rw [e1]
    rw [List.drop_eq_getElem_cons hj] at h4
    obtain ⟨c0, c1, e, ⟨bv', rfl, _⟩, h5⟩ := h4
    rw [e]
    exact h5.keep EMail.ok hK (fun k hk e => hS (e ▸ hk))

set_option maxHeartbeats 1000000 in
/-- 'All'. -/
theorem all_okF (w : World) (S : BS) (bn : Nat) (g0 : Option Nat) (ms : List Mail) (h : NetAt w S bn g0 ms) (hlen : ms.length ≤ 2000) (hby : ∀ m ∈ ms, m.b.length ≤ 60000) :
    Calls Try.prog 12 #[.pointer (some ⟨bn, 0, none⟩)] w fun e w' => ∃ v', e = .returned v' ∧ Sl EMailF w' (fun k => w.heap.size ≤ k) v' ms ∧ Ext w w' := by
  obtain ⟨va, hb, hg, hown, hSb, hSg⟩ := h
  obtain ⟨Aa, ca, rfl, hla, hca⟩ := hown.shape
  have d0 := hb.cell 0
  simp at d0
  have hsl := (hown.sl EMail.ok).more (S' := fun k => (S k ∨ (Value.slice Aa ms.length ca).ownBlock = some k) ∧ k < w.heap.size) EMail.ok (fun k h1 h2 => ⟨h2, h1⟩)
  have HT := hid (clone_mails _ _ _ _ hsl (by omega) (fun k h => h.2))
  clear hb hown hsl
  go_enter Try.func12, Try.ntmps12
  go_wp2_with fail
  refine HT.out.mono ?_
  rintro e w1 ⟨v1, rfl, hown1, hE1⟩
  clear HT
  generalize hS1 : (fun k => (S k ∨ (Value.slice Aa ms.length ca).ownBlock = some k) ∧ k < w.heap.size) = S1 at *
  have hS1' : ∀ k, S1 k → k < w.heap.size := fun k hk => by subst hS1; exact hk.2
  have hsz1 := hE1.size
  clear hS1 hSb hSg hg d0 hla hca
  rcases hown1 with ⟨rfl, rfl⟩ | ⟨g, cap, cur, rfl, hgr, hbk, hlc, hcm, hsz, hcs⟩
  · have H := hid hE1
    clear hE1 hS1' hsz1
    go_wp2
    go_loopw [12] (fun i wr => i = .int .i64 0 ∧ wr = w1) (fun _ _ => 0)
    case atStart => exact ⟨rfl, rfl⟩
    case round =>
      obtain ⟨rfl, rfl⟩ := hrel
      go_wp2
      go_ret
      exact ⟨_, rfl, Sl.nil _ _, H.out⟩
  · have hz3 : EMail.size = 3 := rfl
    rw [hz3] at hcs hsz
    clear hz3
    have hSg : ¬ S1 g := fun h => by have := hS1' g h; omega
    have hA : AllAtF w1 w.heap.size g S1 cap ms 0 := ⟨cur, hbk, hsz, by simp; rfl, by simpa using hcs⟩
    unfold maxLen at hcm
    generalize hn : ms.length = n at *
    have HN := hid hn
    have HS1 := hid hS1'
    have HZ := hid hsz1
    clear hn hsz hcs hbk hS1' hsz1
    go_wp2
    go_loopw [12] (fun i wr => ∃ j : Nat, j ≤ n ∧ i = .int .i64 j ∧ AllAtF wr w.heap.size g S1 cap ms j ∧ Ext w wr) (fun i _ => n - (intOf i).toNat)
    case atStart => exact ⟨0, by omega, rfl, hA, hE1⟩
    case round =>
      obtain ⟨j, hj, rfl, hAj, hEj⟩ := hrel
      by_cases hlt : j < n
      · obtain ⟨bv, q0, q1, q2, hbv⟩ := hAj.cell (by rw [HN.out]; exact hlt)
        have hbl : (ms[j]'(by rw [HN.out]; exact hlt)).b.length ≤ 60000 := hby _ (List.getElem_mem _)
        have HNx := hid (fun w' bv' => @AllAtF.next w' w.heap.size g S1 cap ms j bv')
        have hjm : j < ms.length := by rw [HN.out]; exact hlt
        generalize hm : ms[j]'hjm = m at *
        obtain ⟨A, c, rfl, _⟩ := hbv.shape
        go_wp2_with fail
        refine (clone_mailF _ _ _ _ _ _ hbv (by omega)).mono ?_
        rintro e w2 ⟨bv2, rfl, hb2, hu2, hE2⟩
        have hAl := (hAj.ext hE2).lt
        have hgw := hAj.lt
        obtain ⟨A2, c2, rfl, _⟩ := hb2.shape
        have hNx := HNx.out w2 (.slice A2 m.b.length c2) (hAj.ext hE2) hjm (by rw [HN.out]; exact hlc) hSg
        rw [hm] at hNx
        have hAn := hNx (hb2.more EU8.ok fun k _ h => by have := HZ.out; have := hEj.size; exact ⟨by omega, by omega⟩) hu2
        have hEn : Ext w (((w2.setCell ⟨g, j * 3, none⟩ (.int .i64 m.sess)).setCell ⟨g, j * 3 + 1, none⟩ (.bool m.up)).setCell ⟨g, j * 3 + 2, none⟩ (.slice A2 m.b.length c2)) :=
          (hEj.ext hE2).trans (((((Keep.refl (fun k => k = g) w2).set1 (j * 3) _).set1 (j * 3 + 1) _).set1 (j * 3 + 2) _)) (fun k hk e => by omega)
        have f0 := (hAj.ext hE2).frozen (j * 3)
        have f1 := (hAj.ext hE2).frozen (j * 3 + 1)
        have f2 := (hAj.ext hE2).frozen (j * 3 + 2)
        have p0 := (hE2.cell hgw id).trans q0
        have p1 := (hE2.cell hgw id).trans q1
        have p2 := (hE2.cell hgw id).trans q2
        have HAn := hid hAn
        have HEn := hid hEn
        have HM := hid hm
        clear hAn hEn hNx HNx hm hAj hE2 hb2 hu2 hEj
        go_wp2_with fail
        go_roundw
        case rel => exact ⟨j + 1, by omega, by go_num, HAn.out, HEn.out⟩
        case measure => simp [intOf]; omega
      · obtain rfl : j = n := by omega
        have hfin : Sl EMailF wr (fun k => w.heap.size ≤ k) (.slice (some ⟨g, 0, none⟩) j cap) ms := by
          obtain ⟨cur', a1, a2, a3, a4⟩ := hAj
          have hn := HN.out
          rw [List.take_of_length_le (l := ms) (by omega)] at a3
          refine ⟨cur'.toList.take (j * 3), ⟨by rw [hn]; simp [a2, show EMailF.size = 3 from rfl]; omega, some ⟨g, 0, none⟩, cap, by rw [hn], by omega, by unfold maxLen; omega, fun _ => ⟨g, 0, rfl, hgr, a1.lt, fun i u hu => ?_⟩⟩, a3.more EMailF.ok fun k _ h => h.1⟩
          rw [List.getElem?_take] at hu
          split at hu
          · rw [a1.cell, Nat.zero_add]; simpa using hu
          · cases hu
        have H := hid hfin
        have H' := hid hEj
        clear hfin hEj hAj hE1 hA
        go_wp2
        go_ret
        exact ⟨_, rfl, H.out, H'.out⟩
end Go.Proofs.Ytjpbfdkpkeaofaa
