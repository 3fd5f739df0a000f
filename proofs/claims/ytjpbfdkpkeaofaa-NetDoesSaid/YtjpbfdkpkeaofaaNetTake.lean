/- Package net: Take, Drop. -/
import Derived.Test.YtjpbfdkpkeaofaaNetDel
set_option linter.unusedSimpArgs false
set_option linter.unusedVariables false
namespace Go.Proofs.Ytjpbfdkpkeaofaa
open Go.RowKit
set_option linter.unusedVariables false

theorem NetAt.more {w : World} {S S' : BS} {bn : Nat} {g : Option Nat} {ms : List Mail} (h : NetAt w S bn g ms) (hS : ∀ k, k < w.heap.size → S k → S' k) (hb : ¬ S' bn) (hg : ∀ k, g = some k → ¬ S' k) : NetAt w S' bn g ms := by
  obtain ⟨va, h1, h2, h3, h4, h5⟩ := h
  exact ⟨va, h1, h2, h3.more EMail.ok hS, hb, hg⟩
theorem NetAt.notS {w : World} {S : BS} {bn : Nat} {g : Option Nat} {ms : List Mail} (h : NetAt w S bn g ms) : ¬ S bn ∧ ∀ k, g = some k → ¬ S k := by
  obtain ⟨va, h1, h2, h3, h4, h5⟩ := h
  exact ⟨h4, h5⟩
theorem NetAt.cutS {w : World} {S : BS} {bn : Nat} {g : Option Nat} {ms : List Mail} (h : NetAt w S bn g ms) : NetAt w (fun k => S k ∧ k < w.heap.size) bn g ms :=
  h.more (fun k hk hs => ⟨hs, hk⟩) (fun x => h.notS.1 x.1) (fun k e x => h.notS.2 k e x.1)

set_option maxHeartbeats 1000000 in
theorem take_yes0 (w : World) (S : BS) (bn : Nat) (g : Option Nat) (ms : List Mail) (i : Nat) (h : NetAt w S bn g ms) (hi : i < ms.length) (hSr : ∀ k, S k → k < w.heap.size) :
    Calls Try.prog 10 #[.pointer (some ⟨bn, 0, none⟩), .int .i64 (i : Int)] w fun e w' =>
      ∃ bv, e = .returned (.tuple #[.agg #[.int .i64 ms[i].sess, .bool ms[i].up, bv], .bool true]) ∧ BytesS w' S bv ms[i].b ∧ NetAt w' S bn g (ms.eraseIdx i) ∧ Keep (NF bn g) w w' := by
  have hbn := h.lt
  have hE1 : Ext w (w.alloc (.cells #[.int .i64 0, .bool false, .slice none 0 0] TMAIL)) := (Keep.refl _ _).alloc _
  have hres : Blk (w.alloc (.cells #[.int .i64 0, .bool false, .slice none 0 0] TMAIL)) w.heap.size TMAIL #[.int .i64 0, .bool false, .slice none 0 0] := Blk.new _ _ _
  have hn1 := h.ext hE1
  have hz1 : (w.alloc (.cells #[.int .i64 0, .bool false, .slice none 0 0] TMAIL)).heap.size = w.heap.size + 1 := by simp
  generalize hm : ms[i] = m
  have HSr := hid hSr
  have HE1 := hid hE1
  have HM := hid hm
  have HZ := hid hz1
  clear hE1 hm hz1 h hSr
  go_enter Try.func10, Try.ntmps10
  go_wp2_with fail
  generalize w.alloc (.cells #[.int .i64 0, .bool false, .slice none 0 0] TMAIL) = w1 at *
  refine (lacks_ok _ _ _ _ _ _ false hn1 (by simp; omega)).mono ?_
  rintro e w2 ⟨rfl, rfl⟩
  obtain ⟨va, hb, hg, hown, hSb, hSg⟩ := hn1
  obtain ⟨gb, cap, rfl, hgb, hgb2, hlc, hcm⟩ := hown.form (by omega)
  obtain rfl : some gb = g := hg
  have hSgb : ¬ S gb := hSg gb rfl
  have d0 := hb.cell 0
  have d1 := hb.frozen 0
  simp at d0
  obtain ⟨c0, hrd, hcell⟩ := hown.at_ EMail.ok hi
  rw [HM.out] at hrd
  obtain ⟨bv, rfl, hbv⟩ := hrd
  have e0 := hcell 0 _ rfl
  have e1 := hcell 1 _ rfl
  have e2 := hcell 2 _ rfl
  have hz3 : EMail.size = 3 := rfl
  simp only [hz3] at e0 e1 e2
  rw [Nat.add_zero] at e0
  obtain ⟨A, c, rfl, _⟩ := hbv.shape
  unfold maxLen at hcm
  clear hz3 hcell
  have hE2 : Ext w1 (w1.alloc (.cells #[.int .i64 m.sess, .bool m.up, .slice A m.b.length c] TMAIL)) := (Keep.refl _ _).alloc _
  have hbox : Blk (w1.alloc (.cells #[.int .i64 m.sess, .bool m.up, .slice A m.b.length c] TMAIL)) w1.heap.size TMAIL #[.int .i64 m.sess, .bool m.up, .slice A m.b.length c] := Blk.new _ _ _
  have hb2 := hb.keep hE2 id
  have hblt := hb.lt
  have Hbn := hid hbn
  have HSg := hid hSg
  have Hbox := hid hbox
  have Hrs := hid hres
  have HE2 := hid hE2
  have Hb2 := hid hb2
  have Hb := hid hb
  have Hown := hid hown
  clear hbn hSg hbox hres hE2 hb2 hb hown
  go_wp2_with fail
  have hE2 := HE2.out
  generalize hw2 : w1.alloc (.cells #[.int .i64 m.sess, .bool m.up, .slice A m.b.length c] TMAIL) = w2 at *
  refine (delete_ok w2 (bn + 1) _ gb cap ms i (Hown.out.ext EMail.ok hE2) hi hSgb).mono ?_
  rintro e w3 ⟨rfl, hown3, hK3⟩
  have hz := HZ.out
  obtain ⟨hbnr, hgbr⟩ := Hbn.out
  have hgbr := (hgbr gb rfl).2
  have hbn3 := Hb2.out.keep hK3 (by omega)
  have hbx3 := Hbox.out.keep hK3 (by omega)
  have hrs3 := (Hrs.out.keep hE2 id).keep hK3 (by omega)
  have hbv3 := (hbv.ext EU8.ok hE2).keep EU8.ok hK3 (fun k h1 h2 => hSgb (h2 ▸ h1))
  have hSr := HSr.out
  generalize hr : w.heap.size = r at *
  generalize hx : w1.heap.size = x at *
  have q0 := hbn3.cell 0
  have q1 := hbn3.frozen 0
  have x0 := hbx3.cell 0
  have x1 := hbx3.cell 1
  have x2 := hbx3.cell 2
  have r0 := hrs3.cell 0
  have r1 := hrs3.cell 1
  have r2 := hrs3.cell 2
  have s0 := hrs3.frozen 0
  have s1 := hrs3.frozen 1
  have s2 := hrs3.frozen 2
  simp at q0 x0 x1 x2 r0 r1 r2
  have hrx : r < x := by omega
  have hne1 : bn ≠ r := by omega
  have hne2 : bn ≠ x := by omega
  have hne3 : r ≠ x := by omega
  have hle : ms.length - 1 = (ms.eraseIdx i).length := by rw [List.length_eraseIdx]; simp [hi]
  generalize hv3 : Value.slice (some ⟨gb, 0, none⟩) (ms.length - 1) cap = v3 at *
  have hKF : Keep (fun k => k = bn ∨ k = r) w3 ((((w3.setCell ⟨bn, 0, none⟩ v3).setCell ⟨r, 0, none⟩ (.int .i64 m.sess)).setCell ⟨r, 1, none⟩ (.bool m.up)).setCell ⟨r, 2, none⟩ (.slice A m.b.length c)) :=
    ((((Keep.refl _ _).setAt (fun _ => .inl rfl) _ _).setAt (fun _ => .inr rfl) _ _).setAt (fun _ => .inr rfl) _ _).setAt (fun _ => .inr rfl) _ _
  have hbF : Blk ((((w3.setCell ⟨bn, 0, none⟩ v3).setCell ⟨r, 0, none⟩ (.int .i64 m.sess)).setCell ⟨r, 1, none⟩ (.bool m.up)).setCell ⟨r, 2, none⟩ (.slice A m.b.length c)) bn TNET #[v3] :=
    (((hbn3.set_ 0 v3).far hne1 _).far hne1 _).far hne1 _
  have hF : BytesS ((((w3.setCell ⟨bn, 0, none⟩ v3).setCell ⟨r, 0, none⟩ (.int .i64 m.sess)).setCell ⟨r, 1, none⟩ (.bool m.up)).setCell ⟨r, 2, none⟩ (.slice A m.b.length c)) S (.slice A m.b.length c) m.b ∧
      NetAt ((((w3.setCell ⟨bn, 0, none⟩ v3).setCell ⟨r, 0, none⟩ (.int .i64 m.sess)).setCell ⟨r, 1, none⟩ (.bool m.up)).setCell ⟨r, 2, none⟩ (.slice A m.b.length c)) S bn (some gb) (ms.eraseIdx i) ∧
      Keep (NF bn (some gb)) w ((((w3.setCell ⟨bn, 0, none⟩ v3).setCell ⟨r, 0, none⟩ (.int .i64 m.sess)).setCell ⟨r, 1, none⟩ (.bool m.up)).setCell ⟨r, 2, none⟩ (.slice A m.b.length c)) := by
    have hSF : ∀ k, S k → ¬ (k = bn ∨ k = r) := fun k hs e => by
      rcases e with rfl | rfl
      · exact hSb hs
      · exact absurd (hSr _ hs) (Nat.lt_irrefl _)
    refine ⟨hbv3.keep EU8.ok hKF hSF, ⟨v3, hbF, by rw [← hv3]; rfl, hown3.keep EMail.ok hKF hSF (fun k e => ?_), hSb, HSg.out⟩, ?_⟩
    · rw [← hv3] at e; injection e with e; have e : gb = k := e; subst e; omega
    · refine (((Keep.refl _ _).ext HE1.out).ext hE2).trans hK3 (fun k hk e => .inr (congrArg some e.symm)) |>.trans hKF fun k hk e => ?_
      rcases e with rfl | rfl
      · exact .inl rfl
      · omega
  have H := hid hF
  clear hF hbF hKF hle hown3 hbv3 hbn3 hbx3 hrs3 hK3 hE2 hr hx hz HZ HSr HE1 Hb2 Hb Hown Hrs Hbox HE2 hbv Hbn hSr hgbr hgb2 hw2
  rw [← hv3] at *
  go_wp2_with fail
  refine bodyPost_ret (v := .tuple #[.agg #[.int .i64 m.sess, .bool m.up, .slice A m.b.length c], .bool true]) (by simp [results, Try.results10, go_sem, r0, r1, r2, hne1]) rfl ⟨_, rfl, H.out⟩

set_option maxHeartbeats 400000 in
/-- 'Take' of none. -/
theorem take_no (w : World) (S : BS) (bn : Nat) (g : Option Nat) (ms : List Mail) (i : Int) (h : NetAt w S bn g ms) (hi : i < 0 ∨ (ms.length : Int) ≤ i) :
    Calls Try.prog 10 #[.pointer (some ⟨bn, 0, none⟩), .int .i64 i] w fun e w' =>
      e = .returned (.tuple #[.agg #[.int .i64 0, .bool false, .slice none 0 0], .bool false]) ∧ Ext w w' := by
  have hE1 : Ext w (w.alloc (.cells #[.int .i64 0, .bool false, .slice none 0 0] TMAIL)) := (Keep.refl _ _).alloc _
  have hres : Blk (w.alloc (.cells #[.int .i64 0, .bool false, .slice none 0 0] TMAIL)) w.heap.size TMAIL #[.int .i64 0, .bool false, .slice none 0 0] := Blk.new _ _ _
  have hn1 := h.ext hE1
  have hI := hid hi
  have HE := hid hE1
  clear h hE1 hi
  go_enter Try.func10, Try.ntmps10
  go_wp2_with fail
  generalize w.alloc (.cells #[.int .i64 0, .bool false, .slice none 0 0] TMAIL) = w1 at *
  refine (lacks_ok _ _ _ _ _ _ true hn1 (by simpa using hI.out)).mono ?_
  rintro e w2 ⟨rfl, rfl⟩
  generalize hr : w.heap.size = r at *
  have r0 := hres.cell 0
  have r1 := hres.cell 1
  have r2 := hres.cell 2
  have s0 := hres.frozen 0
  have s1 := hres.frozen 1
  have s2 := hres.frozen 2
  simp at r0 r1 r2
  have hK := HE.out.trans ((((Keep.refl (fun k => k = r) w1).setAt (fun _ => rfl) 0 (.int .i64 0)).setAt (fun _ => rfl) 1 (.bool false)).setAt (fun _ => rfl) 2 (.slice none 0 0)) (fun k hk e => by omega)
  have H := hid hK
  clear hK HE hr hn1 hI hres
  go_wp2_with fail
  refine bodyPost_ret (v := .tuple #[.agg #[.int .i64 0, .bool false, .slice none 0 0], .bool false]) (by simp [results, Try.results10, go_sem, r0, r1, r2]) rfl ⟨rfl, H.out⟩

/-- 'Take' of one that is there. -/
theorem take_yes (w : World) (S : BS) (bn : Nat) (g : Option Nat) (ms : List Mail) (i : Nat) (h : NetAt w S bn g ms) (hi : i < ms.length) :
    Calls Try.prog 10 #[.pointer (some ⟨bn, 0, none⟩), .int .i64 (i : Int)] w fun e w' =>
      ∃ bv, e = .returned (.tuple #[.agg #[.int .i64 ms[i].sess, .bool ms[i].up, bv], .bool true]) ∧ BytesS w' S bv ms[i].b ∧ NetAt w' S bn g (ms.eraseIdx i) ∧ Keep (NF bn g) w w' :=
  (take_yes0 w _ bn g ms i h.cutS hi (fun k h => h.2)).mono fun e w' ⟨bv, h1, h2, h3, h4⟩ => ⟨bv, h1, h2.more EU8.ok (fun k _ h => h.1), h3.more (fun k _ h => h.1) h.notS.1 h.notS.2, h4⟩
end Go.Proofs.Ytjpbfdkpkeaofaa
