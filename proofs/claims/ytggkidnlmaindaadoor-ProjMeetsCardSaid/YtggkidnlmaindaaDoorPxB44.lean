/- TwoA, Laid7: laid together. -/
import Derived.Test.YtggkidnlmaindaaDoorPxB41
import Derived.Test.YtggkidnlmaindaaDoorPxB42
import Derived.Test.YtggkidnlmaindaaDoorPxB43
import Derived.Test.YtggkidnlmaindaaDoorPxB39
import Derived.Test.YtggkidnlmaindaaDoorPxB35
import Derived.Test.YtggkidnlmaindaaDoorPxB26
import Derived.Test.YtggkidnlmaindaaDoorRows
set_option linter.unusedSimpArgs false
set_option linter.unusedVariables false
set_option maxHeartbeats 25600000
set_option maxRecDepth 20000
namespace Go.Proofs.YtggkidnlmaindaaDoor
open Go.RowKit
theorem five_rise : fiveKeys.Pairwise fun a b => keyLt a b = true := by
 have : fiveKeys.Pairwise fun a b => Op.bytesLess a.toList b.toList = true := by
  unfold fiveKeys
  simp only [ByteArray.toList_eq]
  decide
 exact this
theorem five_asc {k : ByteArray} (h : k ∈ fiveKeys) : Asc k := by
 simp only [fiveKeys, List.mem_cons, List.not_mem_nil, or_false] at h
 rcases h with rfl | rfl | rfl | rfl | rfl <;> exact ⟨fun c hc => by simp at hc; subst hc; decide, by decide⟩
theorem fsizes_241 : ∀ l : List F, (∀ f ∈ l, f.v.size ≤ 241) → F.sizes l ≤ l.length * 242
 | [], _ => by simp [F.sizes]
 | f :: l, h => by
  have h1 := h f List.mem_cons_self
  have h2 := fsizes_241 l fun g hg => h g (List.mem_cons_of_mem _ hg)
  rw [F.sizes, F.size_eq, List.length_cons, Nat.add_mul]; omega
theorem obj_facts {ys : List F} {m : Nat} (h : FldsOk ys m) : SV (.mk 5 0 ⟨#[]⟩ [] ys) ∧ VTx 40 (.mk 5 0 ⟨#[]⟩ [] ys) ∧ (V.mk 5 0 ⟨#[]⟩ [] ys).size ≤ 2000 ∧ ys.length ≤ 5 := by
 have h5 : ys.length ≤ 5 := by
  have := congrArg List.length h.1
  rw [List.length_map, List.length_take] at this
  simp only [fiveKeys, List.length_cons, List.length_nil] at this
  omega
 refine ⟨?_, ?_, ?_, h5⟩
 ·rw [SV_iff]
  refine ⟨.inr (.inr (.inr (.inr (.inr ⟨rfl, rfl, rfl, rfl⟩)))), by show SVs []; rw [SVs]; trivial, ?_, ?_⟩
  ·rw [SFs_iff]
   intro f hf
   have hk : f.key ∈ fiveKeys := by
    have : f.key ∈ ys.map F.key := List.mem_map_of_mem hf
    rw [h.1] at this
    exact List.mem_of_mem_take this
   rw [SF_iff]
   exact ⟨five_asc hk, (h.2 f hf).1.1⟩
  ·rw [rise_iff]
   have : (ys.map F.key).Pairwise fun a b => keyLt a b = true := by rw [h.1]; exact five_rise.sublist (List.take_sublist _ _)
   exact List.pairwise_map.1 this
 ·refine .mk (by show (⟨#[]⟩ : ByteArray).size ≤ 40; decide) (fun y hy => by cases hy) fun f hf => VStr.tx _ (h.2 f hf).1.2.2
 ·have := fsizes_241 ys fun f hf => (h.2 f hf).2
  have h2 : (V.mk 5 0 ⟨#[]⟩ [] ys).size = 1 + V.sizes [] + F.sizes ys := V.size_eq _
  have h3 : V.sizes [] = 0 := by rw [V.sizes]
  have : ys.length * 242 ≤ 5 * 242 := Nat.mul_le_mul_right _ h5
  omega
def EnAt (w : World) (S : BS) (u : Value) (kd c1 c2 : Int) (cs : List Cp) : Prop := ∃ (A : Option Addr) (c : Nat) (B : Option Addr) (d : Nat) (D : Option Addr) (e : Nat), u = .agg #[.int .u8 kd, .int .u32 c1, .int .u32 c2, .int .u8 0, .int .i64 0, .string ⟨#[]⟩, .slice A 0 c, .slice B 0 d, .slice D cs.length e] ∧
 VAt w S (.agg #[.int .u8 0, .int .i64 0, .string ⟨#[]⟩, .slice A 0 c, .slice B 0 d]) zeroV ∧ Sl ECp w S (.slice D cs.length e) cs ∧ (kd = 2 ∨ (kd = 3 ∧ D = none ∧ e = 0 ∧ cs = []))
theorem EnAt.ext {w w' : World} {S : BS} {u : Value} {kd c1 c2 : Int} {cs : List Cp} (h : EnAt w S u kd c1 c2 cs) (he : Ext w w') : EnAt w' S u kd c1 c2 cs := by
 obtain ⟨A, c, B, d, D, e, h0, h1, h2, h3⟩ := h
 exact ⟨A, c, B, d, D, e, h0, h1.ext he, h2.ext ECp.ok he, h3⟩
theorem entry_on (w : World) (S S2 : BS) (u fv : Value) (kd c1 c2 : Int) (cs : List Cp) (fs : List ByteArray) (h : EnAt w S u kd c1 c2 cs) (hs : Sl EStr w S2 fv fs) (hcf : ∀ c ∈ cs, Fit c) (hn : cs.length ≤ 1000) :
  Calls Tryd.prog 21 #[u, fv] w fun e w' => ∃ u', e = .returned u' ∧ EnAt w' (fun _ => True) u' kd c1 c2 (cs.filter (touchL fs)) ∧ Ext w w' := by
 obtain ⟨A, c, B, d, D, e, rfl, h1, h2, h3⟩ := h
 rcases h3 with rfl | ⟨rfl, rfl, rfl, rfl⟩
 ·refine (entry_edit w _ _ _ c1 c2 _ _ _ _ _ _ _ zeroV cs fs h1 (by decide) h2 hs hcf hn).mono ?_
  rintro e w' ⟨lv, ov, op, rfl, q1, q2, q3⟩
  obtain ⟨lx, ox, e1, k1, k2⟩ := id q1
  simp at e1
  obtain ⟨rfl, rfl⟩ := e1
  obtain ⟨A1, a1, rfl, _⟩ := k1.shape
  obtain ⟨A2, a2, rfl, _⟩ := k2.shape
  obtain ⟨A3, a3, rfl, _⟩ := q2.shape
  exact ⟨_, rfl, ⟨A1, a1, A2, a2, A3, a3, rfl, q1, q2, .inl rfl⟩, q3⟩
 ·refine (entry_none w S S2 _ c1 c2 _ _ _ _ _ _ zeroV fs h1 (by decide) hs).mono ?_
  rintro e w' ⟨lv, ov, rfl, q1, q3⟩
  obtain ⟨lx, ox, e1, k1, k2⟩ := id q1
  simp at e1
  obtain ⟨rfl, rfl⟩ := e1
  obtain ⟨A1, a1, rfl, _⟩ := k1.shape
  obtain ⟨A2, a2, rfl, _⟩ := k2.shape
  exact ⟨_, rfl, ⟨A1, a1, A2, a2, none, 0, rfl, q1, Sl.nil _ _, .inr ⟨rfl, rfl, rfl, rfl⟩⟩, q3⟩
theorem same10_on (w : World) (S S2 : BS) (u u2 : Value) (kd c1 c2 : Int) (cs : List Cp) (h : EnAt w S u kd c1 c2 cs) (h2 : EnAt w S2 u2 kd c1 c2 cs) :
  Calls Tryd.prog 23 #[u, u2] w fun e w' => e = .returned (.bool true) ∧ Ext w w' := by
 obtain ⟨A, c, B, d, D, e, rfl, h1, q2, h3⟩ := h
 obtain ⟨A', c', B', d', D', e', rfl, h1', q2', h3'⟩ := h2
 exact rsame10_kd kd w S S2 S S2 c1 c2 zeroV cs _ _ _ _ _ _ h1 h1' q2 q2'
def FitEn (v : V) (w : World) (e : Ending) (w' : World) : Prop := ∃ u kd c1 c2 cs z, e = .returned u ∧ Ext w w' ∧ EnAt w' (fun _ => True) u kd c1 c2 cs ∧ cs.length ≤ 20 ∧ (∀ c ∈ cs, Fit5 c) ∧ ActsTo v cs z ∧ SV z ∧ z.size ≤ 8100
theorem fits_en (w0 : World) (hva : ValAny w0) (hD : DecAny w0) (w : World) (hw : Ext w0 w) (S S2 : BS) (u ru : Value) (v : V) (r : Rc) (hv : VAt w S u v) (hsv : SV v) (htx : VTx 40 v) (hvz : v.size ≤ 2000) (hr : RcAt w S2 ru r) (hwf : ∀ a ∈ r.acts, Wfa a) :
  Calls Tryd.prog 19 #[u, .bool true, ru] w (FitEn v w) := by
 refine (fits_ok w0 hva hD w hw S S2 u ru v r hv hsv htx hvz hr hwf).mono ?_
 rintro e w' ⟨c1, c2, hE, rfl | ⟨ov, cs, z, rfl, h1, h2, h3, h4, h5, h6, h7⟩⟩
 ·exact ⟨_, 3, c1, c2, [], v, rfl, hE, ⟨none, 0, none, 0, none, 0, rfl, zeroV_at _ _, Sl.nil _ _, .inr ⟨rfl, rfl, rfl, rfl⟩⟩, by simp, (fun c hc => (by cases hc)), rfl, hsv, by omega⟩
 ·obtain ⟨A, c, rfl, _⟩ := h1.shape
  exact ⟨_, 2, c1, c2, cs, z, rfl, hE, ⟨none, 0, none, 0, A, c, rfl, zeroV_at _ _, h1.more ECp.ok fun _ _ _ => trivial, .inl rfl⟩, h2, h3, h4, h5, h7⟩
abbrev VOk (y : V) (u : Value) (w : World) : Prop := VIs w (fun _ => True) u y
theorem VOk.ext {y : V} {u : Value} {w w' : World} (h : VOk y u w) (he : Ext w w') : VOk y u w' := by
 obtain ⟨A, n, A', n', h0, h1, h2⟩ := h
 exact ⟨A, n, A', n', h0, h1.ext EVal.ok he, h2.ext EField.ok he⟩
theorem VOk.at_ {y : V} {u : Value} {w : World} (h : VOk y u w) : VAt w (fun _ => True) u y := by
 obtain ⟨A, n, A', n', rfl, h1, h2⟩ := h
 exact ⟨_, _, rfl, h1, h2⟩
theorem part_part (p : ByteArray → Bool) (v : V) : partP p (partP p v) = partP p v := by
 unfold partP
 simp only [V.o, List.filter_filter, Bool.and_self]
theorem part_all {p : ByteArray → Bool} {ys : List F} (h : ∀ f ∈ ys, p f.key = true) : partP p (.mk 5 0 ⟨#[]⟩ [] ys) = .mk 5 0 ⟨#[]⟩ [] ys := by
 unfold partP
 congr 1
 exact List.filter_eq_self.2 h
theorem part_no (v : V) : partP (fun _ => false) v = .mk 5 0 ⟨#[]⟩ [] [] := by
 unfold partP
 congr 1
 exact List.filter_eq_nil_iff.2 fun f _ => by simp
theorem among_mem {fs : List ByteArray} {k : ByteArray} (h : k ∈ fs) : amongL fs k = true := by
 unfold amongL
 rw [List.any_eq_true]
 exact ⟨k, h, by simp⟩
theorem blk7 {w : World} {g : Nat} {T : TypeId} {a0 a1 a2 a3 a4 a5 a6 : Value} (h : Blk w g T #[a0, a1, a2, a3, a4, a5, a6]) : w.cell? ⟨g, 0, none⟩ = some a0 ∧ w.cell? ⟨g, 1, none⟩ = some a1 ∧ w.cell? ⟨g, 2, none⟩ = some a2 ∧ w.cell? ⟨g, 3, none⟩ = some a3 ∧ w.cell? ⟨g, 4, none⟩ = some a4 ∧ w.cell? ⟨g, 5, none⟩ = some a5 ∧ w.cell? ⟨g, 6, none⟩ = some a6 :=
 ⟨h.cell 0, h.cell 1, h.cell 2, h.cell 3, h.cell 4, h.cell 5, h.cell 6⟩
theorem fold_on2 (w0 : World) (hva : ValAny w0) (w : World) (hw : Ext w0 w) (S S2 : BS) (u eu : Value) (v z : V) (c1 c2 : Int) (cs : List Cp) (hv : VAt w S u v) (hvz : v.size ≤ 1000000) (he : EnAt w S2 eu 2 c1 c2 cs) (hn : cs.length ≤ 200) (hs : ∀ c ∈ cs, Snd6 c) (hd : DoesC w0 v cs z) (hz : Wide z) :
  Calls Tryd.prog 20 #[u, .bool true, eu] w (FoldTo w z) := by
 obtain ⟨A, c, B, d, D, e, rfl, h1, h2, _⟩ := he
 exact fold_edit w0 hva w hw S S2 u _ v z c1 c2 A c B d S2 h1 cs hv hvz h2 hn hs hd hz
theorem fold_on3 (w : World) (S S2 : BS) (u eu : Value) (v : V) (c1 c2 : Int) (cs : List Cp) (hv : VAt w S u v) (he : EnAt w S2 eu 3 c1 c2 cs) :
  Calls Tryd.prog 20 #[u, .bool true, eu] w fun e w' => e = .returned (.tuple #[.agg #[.int .u8 0, .int .i64 0, .string ⟨#[]⟩, .slice none 0 0, .slice none 0 0], .bool false, .int .i64 0]) ∧ Ext w w' := by
 obtain ⟨A, c, B, d, D, e, rfl, h1, h2, h3⟩ := he
 rcases h3 with h3 | ⟨_, rfl, rfl, rfl⟩
 ·exact absurd h3 (by decide)
 ·exact fold_gone w S u v c1 c2 A c B d S2 h1 hv
theorem within_on (w : World) (S S2 : BS) (u fv : Value) (c1 c2 : Int) (cs : List Cp) (fs : List ByteArray) (h : EnAt w S u 2 c1 c2 cs) (hs : Sl EStr w S2 fv fs) :
  Calls Tryd.prog 22 #[u, fv] w fun e w' => e = .returned (.bool (!cs.any (goesC fs))) ∧ Ext w w' := by
 obtain ⟨A, c, B, d, D, e, rfl, h1, h2, _⟩ := h
 exact within_edit w S S2 _ _ _ _ _ _ _ _ _ cs fs h2 hs
theorem acts_at {w0 : World} (hva : ValAny w0) (hD : DecAny w0) (ks : List ByteArray) {cs : List Cp} {v z : V} (h : ActsTo v cs z) (hz : SV z) (hvz : v.size ≤ 2000) (hk : v.kind = 5) (hn : cs.length ≤ 20) :
  DoesC w0 v cs z ∧ (∀ c ∈ cs, Snd6 c) ∧ z.kind = 5 ∧ DoesC w0 (projV v ks) (cs.filter (touchL ks)) (projV z ks) ∧ ((∀ c ∈ cs, touchL ks c = true) → othersV z ks = othersV v ks) := by
 obtain ⟨h1, h2, h3⟩ := acts_do hva hD (amongL ks) cs v z 10000 h hz (by omega) (by decide)
 obtain ⟨h4, h5, h6⟩ := h3 hk
 have ht : (touchL ks) = touP (amongL ks) := funext fun c => touchL_tou ks c
 refine ⟨h1, h2, h4, ?_, fun ha => ?_⟩
 ·rw [projV_part hk, projV_part h4, ht]; exact h5
 ·rw [othersV_part, othersV_part]
  exact h6 fun c hc => by rw [← touchL_tou]; exact ha c hc
def OutF (z : V) (K n m : Nat) (u : Value) (w : World) : Prop := K ≤ n ∧ ∃ (A : Option Addr) (c : Nat) (B : Option Addr) (d : Nat), u = .tuple #[.agg (vC z A c B d), .bool true, .int .i64 0] ∧
 Sl EVal w (fun q => n ≤ q ∧ q < m) (.slice A z.l.length c) z.l ∧ Sl EField w (fun q => n ≤ q ∧ q < m) (.slice B z.o.length d) z.o
theorem OutF.ext {z : V} {K n m : Nat} {u : Value} {w w' : World} (h : OutF z K n m u w) (he : Ext w w') : OutF z K n m u w' := by
 obtain ⟨h0, A, c, B, d, h1, h2, h3⟩ := h
 exact ⟨h0, A, c, B, d, h1, h2.ext EVal.ok he, h3.ext EField.ok he⟩
theorem FoldTo.outf {z : V} {w w' : World} {e : Ending} {K : Nat} (h : FoldTo w z e w') (hb : foldBad z = false) (hK : K ≤ w.heap.size) : ∃ u, e = .returned u ∧ Ext w w' ∧ OutF z K w.heap.size w'.heap.size u w' := by
 obtain ⟨hE, ⟨hx, _⟩ | ⟨_, u, rfl, A, c, B, d, rfl, h1, h2⟩⟩ := h
 ·rw [hb] at hx; cases hx
 ·exact ⟨_, rfl, hE, hK, A, c, B, d, rfl, h1.more EVal.ok fun k h1 h2 => ⟨h2, h1⟩, h2.more EField.ok fun k h1 h2 => ⟨h2, h1⟩⟩
end Go.Proofs.YtggkidnlmaindaaDoor
namespace Go.Proofs.YtggkidnlmaindaaDoor
open Go.ChangeShapes Go.WideShapes Go.ChangeAt Go.RowKit Go.Deep
theorem dec_laid7 {w0 : World} {l : List (String × DataW Unit)} (h : laidMetH Tryd.prog l w0) (hp : l = [("unicode/utf8.acceptRanges", Rows.laid_unicode_utf8_acceptRanges), ("unicode/utf8.first", Rows.laid_unicode_utf8_first)]) : DecAny w0 := by
 subst hp
 rw [MakeChecks.laidMetH_plain _ _ _ (by kernel_rfl)] at h
 have e1 : (Rows.laid_unicode_utf8_first : DataW Unit) = Lib.firstData := by kernel_rfl
 have e2 : (Rows.laid_unicode_utf8_acceptRanges : DataW Unit) = Lib.acceptData := by kernel_rfl
 have h3 : Lib.VarReads Tryd.prog w0 "unicode/utf8.first" Lib.firstData := by rw [← e1]; exact Lib.laidMet.reads h (.tail _ (.head _))
 have h4 : Lib.VarReads Tryd.prog w0 "unicode/utf8.acceptRanges" Lib.acceptData := by rw [← e2]; exact Lib.laidMet.reads h (.head _)
 exact dec_any (utf8Tabs_of_readsT { Tryd.laysDR with } ⟨by kernel_rfl, by kernel_rfl, by kernel_rfl, by kernel_rfl, by kernel_rfl, by kernel_rfl, by kernel_rfl⟩ h3 h4)
end Go.Proofs.YtggkidnlmaindaaDoor
