/- TurnM, TurnP, LayRC, TextA, TextB: laid together. -/
import Derived.Test.YtioplgfopillnaaDoorTtB18
import Derived.Test.YtioplgfopillnaaDoorTtB13
import Derived.Shelf.Utf8.RuneCount
import Derived.Ground.NamesProg
import Derived.Test.YtioplgfopillnaaDoorProg
import Derived.Test.YtioplgfopillnaaDoorTtB2
import Derived.Test.YtioplgfopillnaaDoorTtB4
import Derived.Lib.MinMax
import Derived.Test.YtioplgfopillnaaDoorTtB10
/- known of chapter 07. -/
set_option linter.unusedSimpArgs false
set_option linter.unusedVariables false
namespace Go.Proofs.YtioplgfopillnaaDoor
open Go.RowKit
set_option linter.unusedVariables false

abbrev s07 (i : Int) : St := ⟨true, i, ⟨#[]⟩⟩
abbrev v07 : V := .mk 0 0 ⟨#[]⟩ [] []
abbrev x07 (p : List St) : Cp := ⟨1, p, ⟨#[]⟩, 0, 0, 1, v07, ⟨#[]⟩⟩
abbrev y07 : Cp := ⟨4, [], ⟨#[]⟩, 0, 0, 0, v07, ⟨#[]⟩⟩
abbrev z07 : Cp := ⟨2, [], ⟨#[97]⟩, 0, 0, 0, v07, ⟨#[]⟩⟩
theorem cat07 {w : World} {S : BS} {c : Cp} {pv : Value} (h : Sl ESt w S pv c.path) (hv : c.v = v07) : CAt w S (.agg (cpCells c pv (.slice none 0 0) (.slice none 0 0))) c :=
  ⟨_, _, _, rfl, h, by rw [hv]; exact Sl.nil _ _, by rw [hv]; exact Sl.nil _ _⟩
theorem bel07 {w w' : World} {p : List St} {e : Ending} (h : BelIs w (x07 [s07 1]) y07 0 (s07 1) e w') : TurnOne w (x07 [s07 2]) e w' := by
  rcases h with ⟨h, _⟩ | ⟨_, h⟩
  · have : (thrL (s07 1) y07).2 = true := by decide
    rw [this] at h
    cases h
  · have : (thrL (s07 1) y07).1 = 2 := by decide
    rw [this] at h
    exact h
set_option maxRecDepth 20000 in
set_option maxHeartbeats 3200000 in
theorem known07_ok (w : World) : Calls Tryd.prog 9 #[] w fun e w' => e = .returned (.bool true) ∧ Ext w w' := by
  obtain ⟨W, hW⟩ : ∃ W, w.alloc (.cells #[.bool true, .int .i64 1, .string ⟨#[]⟩] TSTEP) = W := ⟨_, rfl⟩
  have hE : Ext w W := by rw [← hW]; exact (Keep.refl _ _).alloc _
  have hb : Blk W w.heap.size TSTEP #[.bool true, .int .i64 1, .string ⟨#[]⟩] := by rw [← hW]; exact Blk.new _ _ _
  have hs : Sl ESt W (fun _ => True) (.slice (some ⟨w.heap.size, 0, none⟩) 1 1) [s07 1] := by
    rw [← hW]
    exact ⟨[.bool true, .int .i64 1, .string ⟨#[]⟩], (RowS.new (n := 1) (sz := 3) rfl (by decide)).more fun _ _ _ => trivial, Cells.single rfl⟩
  have HE := hid hE
  have HB := hid hb
  have HS := hid hs
  clear hE hb hs
  go_enter Tryd.func9, Tryd.ntmps9
  go_wp2_with fail
  refine (turn_below W _ (fun _ => True) _ _ (x07 [s07 1]) y07 0 (s07 1) true (cat07 HS.out rfl) (cat07 (Sl.nil _ _) rfl) (by decide) (by decide) (List.nil_prefix) (by decide) rfl rfl ⟨by decide, by decide⟩ ⟨by decide, by decide⟩ ⟨by decide, by decide⟩).mono ?_
  intro e W2 h
  obtain ⟨g, pv, lv, ov, rfl, h1, h2, h3, h4, hE2⟩ := bel07 (p := []) h
  obtain ⟨A, c, rfl, _⟩ := h2.shape
  obtain ⟨g2, off, c0, rfl, _, hlt, hrd, hc0⟩ := h2.at_ ESt.ok (k := 0) (by decide)
  have hrd : c0 = [.bool true, .int .i64 2, .string ⟨#[]⟩] := hrd
  subst hrd
  have q2 : W2.cell? ⟨g2, off + 1, none⟩ = some (.int .i64 2) := by have := hc0 1 _ rfl; simpa using this
  have HB2 := hid (HB.out.keep hE2 id)
  have HQ2 := hid q2
  have HP2 := hid h1
  have HE2 := hid (HE.out.ext hE2)
  clear h h1 h2 h3 h4 hE2 hlt hc0 q2 HB HS
  go_wp2_with fail
  refine (turn_put W2 (fun _ => True) (fun _ => True) _ _ z07 z07 (cat07 (Sl.nil _ _) rfl) (cat07 (Sl.nil _ _) rfl) (by decide) (by decide) (List.nil_prefix) (by decide) rfl rfl rfl).mono ?_
  rintro e W3 ⟨rfl, hE3⟩
  have b1 := (HB2.out.keep hE3 id).cell 1
  have q2 := (hE3.cell (lt_of_cell HQ2.out) id).trans HQ2.out
  have p1 := (HP2.out.keep hE3 id).cell 1
  simp at b1 p1
  have HE3 := hid (HE2.out.ext hE3)
  clear hE3
  go_wp2
  go_ret
  exact ⟨rfl, HE3.out⟩
end Go.Proofs.YtioplgfopillnaaDoor

/- Lists of components in memory; turn.own by contract: each gets its own memory, the list reads as it did. -/
set_option linter.unusedSimpArgs false
set_option linter.unusedVariables false
namespace Go.Proofs.YtioplgfopillnaaDoor
open Go.RowKit
set_option linter.unusedVariables false

abbrev cpL (c : Cp) (pv lv ov : Value) : List Value := [U8 c.kind, pv, .string c.key, .int .i64 c.i, .int .i64 c.j, .int .i64 c.n, U8 c.v.kind, .int .i64 c.v.n, .string c.v.s, lv, ov, .string c.s]
/-- A component as an element. -/
def ECp : El Cp := { size := 12, rd := fun w S cs c => ∃ pv lv ov, cs = cpL c pv lv ov ∧ Sl ESt w S pv c.path ∧ Sl EVal w S lv c.v.l ∧ Sl EField w S ov c.v.o }
theorem ECp.ok : ECp.Ok where
  pos := by show 0 < 12; decide
  len := fun ⟨_, _, _, h, _⟩ => by subst h; rfl
  one := fun ⟨pv, lv, ov, h, h1, h2, h3⟩ u hu => by
    subst h
    obtain ⟨A, c, rfl, _⟩ := h1.shape
    obtain ⟨B, d, rfl, _⟩ := h2.shape
    obtain ⟨C, e, rfl, _⟩ := h3.shape
    simp only [List.mem_cons, List.not_mem_nil, or_false] at hu
    rcases hu with rfl | rfl | rfl | rfl | rfl | rfl | rfl | rfl | rfl | rfl | rfl | rfl <;> rfl
  keep := fun ⟨pv, lv, ov, h, h1, h2, h3⟩ hk hF => ⟨pv, lv, ov, h, h1.keep ESt.ok hk hF, h2.keep EVal.ok hk hF, h3.keep EField.ok hk hF⟩
  more := fun ⟨pv, lv, ov, h, h1, h2, h3⟩ hS => ⟨pv, lv, ov, h, h1.more ESt.ok hS, h2.more EVal.ok hS, h3.more EField.ok hS⟩
theorem cells_blk {g : Nat} {T : TypeId} : ∀ (m : List Value) (o : Nat) (w : World) (cur : Array Value), Blk w g T cur → o + m.length ≤ cur.size →
    ∃ cur', Blk (w.setCells g o m) g T cur' ∧ cur'.toList = cur.toList.take o ++ m ++ cur.toList.drop (o + m.length)
  | [], o, w, cur, h, ho => ⟨cur, h, by simp⟩
  | v :: m, o, w, cur, h, ho => by
    have ho' : o + (m.length + 1) ≤ cur.size := ho
    obtain ⟨cur', h1, h2⟩ := cells_blk m (o + 1) _ _ (h.set_ o v) (by rw [Array.size_setIfInBounds]; omega)
    refine ⟨cur', h1, ?_⟩
    have hl : o < cur.toList.length := by simp; omega
    rw [h2, Array.toList_setIfInBounds, List.set_eq_take_append_cons_drop, if_pos hl]
    have e0 : (cur.toList.take o).length = o := by rw [List.length_take]; omega
    have e1 : (cur.toList.take o ++ v :: cur.toList.drop (o + 1)).take (o + 1) = cur.toList.take o ++ [v] := by
      rw [List.take_append, e0, List.take_of_length_le (by omega), Nat.add_sub_cancel_left]; rfl
    have e2 : (cur.toList.take o ++ v :: cur.toList.drop (o + 1)).drop (o + 1 + m.length) = cur.toList.drop (o + (v :: m).length) := by
      rw [List.drop_append, e0, List.drop_of_length_le (by omega), List.nil_append, show o + 1 + m.length - o = m.length + 1 from by omega, List.drop_succ_cons, List.drop_drop]
      congr 1
      show o + 1 + m.length = o + (m.length + 1)
      omega
    rw [e1, e2]; simp
theorem cells_keep (g : Nat) : ∀ (m : List Value) (o : Nat) (w : World), Keep (· = g) w (w.setCells g o m)
  | [], o, w => Keep.refl _ _
  | v :: m, o, w => ((Keep.refl (· = g) w).set1 o v).trans (cells_keep g m (o + 1) _) fun _ _ h => h
/-- One component of an own row, stored over by a copy of it. -/
theorem own_put {w : World} {base g cap j : Nat} {S S2 : BS} {xs : List Cp} {m : List Value} (h : Own ECp w base TCMP S (.slice (some ⟨g, 0, none⟩) xs.length cap) xs) (hj : j < xs.length) (hS : ¬ S g) (hS2 : ¬ S2 g) (hx : ECp.rd w S2 m xs[j]) :
    Own ECp (w.setCells g (j * 12) m) base TCMP (fun k => S k ∨ S2 k) (.slice (some ⟨g, 0, none⟩) xs.length cap) xs := by
  obtain ⟨cur, hbg, _, hblk, hcap, hcm, hsz, hc⟩ := own_cells2 h
  have e12 : ECp.size = 12 := rfl
  rw [e12] at hsz
  have hml : m.length = 12 := ECp.ok.len hx
  have h6 : (j + 1) * 12 ≤ cap * 12 := Nat.mul_le_mul_right _ (by omega)
  obtain ⟨cur', hb', hl'⟩ := cells_blk m (j * 12) w cur hblk (by omega)
  have hkk := cells_keep g m (j * 12) w
  rw [hml] at hl'
  have := own_set ECp.ok hc hbg hcap hcm hsz hj hkk hb' hl' (ECp.ok.keep hx hkk fun k hk e => hS2 (e ▸ hk)) hS
  rw [List.set_getElem_self] at this
  exact this
/-- A row of components of the call's own, whose data lie elsewhere. -/
def OwnC (b : Nat) (g cap n : Nat) (l : List Cp) (w : World) : Prop := Own ECp w b TCMP (fun k => k ≠ g) (.slice (some ⟨g, 0, none⟩) n cap) l
/-- How long paths may be, how great values. -/
abbrev Fit (c : Cp) : Prop := c.path.length ≤ 1000 ∧ c.v.size ≤ 1000000
def OwnIs (b g cap n : Nat) (l : List Cp) (w : World) (e : Ending) (w' : World) : Prop := e = .returned (.slice (some ⟨g, 0, none⟩) n cap) ∧ OwnC b g cap n l w' ∧ Keep (· = g) w w'
theorem ownc_put {b g cap n j : Nat} {l : List Cp} {w0 w : World} {c : Cp} {pv lv ov : Value} (h : OwnC b g cap n l w) (hn : l.length = n) (hj : j < n) (hc : l[j]? = some c)
    (h1 : Sl ESt w (fun k => w0.heap.size ≤ k) pv c.path) (h2 : Sl EVal w (fun k => w0.heap.size ≤ k) lv c.v.l) (h3 : Sl EField w (fun k => w0.heap.size ≤ k) ov c.v.o) (hg : g < w0.heap.size) :
    OwnC b g cap n l (w.setCells g (j * 12) (cpL c pv lv ov)) := by
  subst hn
  have hj' : l[j] = c := (List.getElem?_eq_some_iff.1 hc).2
  have hr : ECp.rd w (fun k => w0.heap.size ≤ k) (cpL c pv lv ov) l[j] := by rw [hj']; exact ⟨pv, lv, ov, rfl, h1, h2, h3⟩
  have := own_put h hj (by simp) (by show ¬ _; omega) hr
  exact Own.more ECp.ok this fun k _ hk => by
    rcases hk with hk | hk
    · exact hk
    · show k ≠ g; omega
theorem Sl.lt_ {w : World} {S : BS} {v : Value} {l : List Cp} (h : Sl ECp w S v l) : Sl ECp w (fun k => k < w.heap.size) v l := h.more ECp.ok fun _ h1 _ => h1
set_option maxRecDepth 20000 in
set_option maxHeartbeats 3200000 in
theorem own_any (w : World) (b g cap n : Nat) (l : List Cp) (h : OwnC b g cap n l w) (hn : l.length = n) (hl : n ≤ 1000) (hf : ∀ c ∈ l, Fit c) :
    Calls Tryd.prog 28 #[.slice (some ⟨g, 0, none⟩) n cap] w (OwnIs b g cap n l w) := by
  have H := hid h
  have HF := hid hf
  have HN := hid hn
  have hcap : n ≤ cap ∧ cap ≤ maxLen ∧ g < w.heap.size := by
    obtain ⟨cur, _, _, hblk, h1, h2, _⟩ := own_cells2 (show Own ECp w b TCMP _ _ l from h)
    exact ⟨by omega, h2, hblk.lt⟩
  obtain ⟨hc1, hc2, hg⟩ := hcap
  unfold maxLen at hc2
  have HG := hid hg
  clear h hf hn hg
  go_enter Tryd.func28, Tryd.ntmps28
  go_wp2_with fail
  go_loopw [6] (fun i wr => ∃ j : Nat, j ≤ n ∧ i = .int .i64 j ∧ OwnC b g cap n l wr ∧ Keep (· = g) w wr) (fun i _ => n - (intOf i).toNat)
  case atStart => exact ⟨0, by omega, rfl, H.out, Keep.refl _ _⟩
  case round =>
    obtain ⟨j, hj, rfl, hO, hK⟩ := hrel
    by_cases hlt : j < n
    · have hj' : j < l.length := by rw [HN.out]; exact hlt
      obtain ⟨c0, ⟨pv, lv, ov, rfl, h1, h2, h3⟩, hcell⟩ := Own.at_ ECp.ok hO hj'
      have HFJ := hid (HF.out _ (List.getElem_mem hj'))
      have HJ := hid (List.getElem?_eq_some_iff.2 ⟨hj', rfl⟩ : l[j]? = some l[j])
      generalize l[j] = c at *
      have HCA := hid (show CAt wr _ (.agg (cpCells c pv lv ov)) c from ⟨pv, lv, ov, rfl, h1, h2, h3⟩)
      obtain ⟨Ap, cp, rfl, _⟩ := h1.shape
      obtain ⟨Al, cl, rfl, _⟩ := h2.shape
      obtain ⟨Ao, co, rfl, _⟩ := h3.shape
      have hfz := fun i => Own.frozen hO i
      have e12 : ECp.size = 12 := rfl
      have g0 := hcell 0 _ rfl
      have g1 := hcell 1 _ rfl
      have g2 := hcell 2 _ rfl
      have g3 := hcell 3 _ rfl
      have g4 := hcell 4 _ rfl
      have g5 := hcell 5 _ rfl
      have g6 := hcell 6 _ rfl
      have g7 := hcell 7 _ rfl
      have g8 := hcell 8 _ rfl
      have g9 := hcell 9 _ rfl
      have g10 := hcell 10 _ rfl
      have g11 := hcell 11 _ rfl
      simp only [e12, Nat.add_zero] at g0 g1 g2 g3 g4 g5 g6 g7 g8 g9 g10 g11
      have z0 := hfz (j * 12)
      have z1 := hfz (j * 12 + 1)
      have z2 := hfz (j * 12 + 2)
      have z3 := hfz (j * 12 + 3)
      have z4 := hfz (j * 12 + 4)
      have z5 := hfz (j * 12 + 5)
      have z6 := hfz (j * 12 + 6)
      have z7 := hfz (j * 12 + 7)
      have z8 := hfz (j * 12 + 8)
      have z9 := hfz (j * 12 + 9)
      have z10 := hfz (j * 12 + 10)
      have z11 := hfz (j * 12 + 11)
      have HO := hid hO
      have HK := hid hK
      clear hO hK hcell hfz h1 h2 h3
      go_wp2_with fail
      refine (comp_copy _ _ _ c HCA.out HFJ.out.1 HFJ.out.2).mono ?_
      rintro e w1 ⟨u', rfl, ⟨qv, mv, nv, rfl, k1, k2, k3⟩, hE1⟩
      obtain ⟨Bp, dp, rfl, _⟩ := k1.shape
      obtain ⟨Bl, dl, rfl, _⟩ := k2.shape
      obtain ⟨Bo, do_, rfl, _⟩ := k3.shape
      have hO1 : OwnC b g cap n l w1 := Own.ext ECp.ok HO.out hE1
      have hfz1 := fun i => Own.frozen hO1 i

      replace g0 := (hE1.cell (lt_of_cell g0) id).trans g0
      replace g1 := (hE1.cell (lt_of_cell g1) id).trans g1
      replace g2 := (hE1.cell (lt_of_cell g2) id).trans g2
      replace g3 := (hE1.cell (lt_of_cell g3) id).trans g3
      replace g4 := (hE1.cell (lt_of_cell g4) id).trans g4
      replace g5 := (hE1.cell (lt_of_cell g5) id).trans g5
      replace g6 := (hE1.cell (lt_of_cell g6) id).trans g6
      replace g7 := (hE1.cell (lt_of_cell g7) id).trans g7
      replace g8 := (hE1.cell (lt_of_cell g8) id).trans g8
      replace g9 := (hE1.cell (lt_of_cell g9) id).trans g9
      replace g10 := (hE1.cell (lt_of_cell g10) id).trans g10
      replace g11 := (hE1.cell (lt_of_cell g11) id).trans g11
      replace z0 := hfz1 (j * 12)
      replace z1 := hfz1 (j * 12 + 1)
      replace z2 := hfz1 (j * 12 + 2)
      replace z3 := hfz1 (j * 12 + 3)
      replace z4 := hfz1 (j * 12 + 4)
      replace z5 := hfz1 (j * 12 + 5)
      replace z6 := hfz1 (j * 12 + 6)
      replace z7 := hfz1 (j * 12 + 7)
      replace z8 := hfz1 (j * 12 + 8)
      replace z9 := hfz1 (j * 12 + 9)
      replace z10 := hfz1 (j * 12 + 10)
      replace z11 := hfz1 (j * 12 + 11)
      have hN := ownc_put hO1 HN.out hlt HJ.out k1 k2 k3 (by have := HG.out; have := HK.out.size; omega)
      have hKN : Keep (· = g) w (w1.setCells g (j * 12) (cpL c (.slice Bp c.path.length dp) (.slice Bl c.v.l.length dl) (.slice Bo c.v.o.length do_))) := (HK.out.trans hE1 fun _ _ h => h.elim).trans (cells_keep g _ _ _) fun _ _ h => h
      have HNN := hid hN
      have HKN := hid hKN
      clear hN hKN hO1 hfz1 hE1 k1 k2 k3
      go_wp2
      exact ⟨⟨j + 1, by omega, by go_num, HNN.out, HKN.out⟩, by simp [intOf]; omega⟩
    · have hjn : j = n := by omega
      subst hjn
      have HO := hid hO
      have HK := hid hK
      clear hO hK
      go_wp2
      go_ret
      exact ⟨rfl, HO.out, HK.out⟩

/-- A list of components, each of its own memory. -/
def ListIs (w : World) (v : Value) (l : List Cp) (e : Ending) (w' : World) : Prop := e = .returned v ∧ Sl ECp w' (fun k => k < w'.heap.size) v l ∧ Keep (fun k => v.ownBlock = some k) w w'
theorem own_list (w : World) (b : Nat) (S : BS) (v : Value) (l : List Cp) (h : Own ECp w b TCMP S v l) (hS : ∀ g, v.ownBlock = some g → ¬ S g) (hl : l.length ≤ 1000) (hf : ∀ c ∈ l, Fit c) :
    Calls Tryd.prog 28 #[v] w (ListIs w v l) := by
  rcases Nat.eq_zero_or_pos l.length with h0 | h0
  · obtain rfl := List.eq_nil_of_length_eq_zero h0
    rcases h with ⟨rfl, _⟩ | ⟨g, cap, cur, rfl, h1, h2, h3, h4, h5, h6⟩
    · exact (own_nil w).mono fun e w' h => ⟨h.1, Sl.nil _ _, by rw [h.2]; exact Keep.refl _ _⟩
    · refine (own_any w b g cap 0 [] (.inr ⟨g, cap, cur, rfl, h1, h2, h3, h4, h5, rfl⟩) rfl (by simp) (fun c hc => by cases hc)).mono fun e w' h => ⟨h.1, ?_, h.2.2.mono fun k _ hk => by rw [hk]; rfl⟩
      exact (Own.sl ECp.ok h.2.1).lt_
  · obtain ⟨g, cap, rfl, h1, h2, h3, h4⟩ := h.form h0
    have hS' := hS g rfl
    refine (own_any w b g cap _ l (Own.more ECp.ok h fun k _ hk => by show k ≠ g; intro e; subst e; exact hS' hk) rfl hl hf).mono fun e w' h => ⟨h.1, ?_, h.2.2.mono fun k _ hk => by rw [hk]; rfl⟩
    exact (Own.sl ECp.ok h.2.1).lt_

end Go.Proofs.YtioplgfopillnaaDoor

/-
  DERIVED: THE SHELF's CONTRACTS AT THIS DUMP, IN PLAIN WORDS (tools/lay-plain.mjs out of 'YtioplgfopillnaaDoorLayRCRaw.lean', which tools/lay-shelf.mjs wrote): THE SAME DECLARATIONS UNDER THE SAME NAMES: 'import', 'namespace', 'open', 'def', 'theorem' AND NOTHING ELSE: no command of the shelf's: FOR A HAND-IN. Each laying: the table of numbers ('.._ren') and one theorem, a field a fact of the dump's own or the kernel's comparison; each contract: ONE APPLICATION.
-/
namespace Go.Proofs
open Go.Shelf
def Tryd.laysRC_ren : Go.Shelf.Ren := ⟨fun | 195 => 104 | n => n, fun | 9 => 9 | 3 => 3 | 0 => 0 | 4 => 4 | n => n, fun | n => n⟩
theorem Tryd.laysRC : Go.Proofs.Lays.n195 Tryd.prog Tryd.laysRC_ren := {
  mixed := by kernel_rfl
  f195 := Tryd.func104.trans (congrArg some (by kernel_rfl))
  t0 := Tryd.underlying0
  a0 := Tryd.isAgg0
  z0 := Tryd.sizeOf0
  v0 := Tryd.zeroValue0
  t3 := Tryd.underlying3
  a3 := Tryd.isAgg3
  z3 := Tryd.sizeOf3
  v3 := Tryd.zeroValue3
  t4 := Tryd.underlying4
  a4 := Tryd.isAgg4
  z4 := Tryd.sizeOf4
  v4 := Tryd.zeroValue4
  t9 := Tryd.underlying9
  a9 := Tryd.isAgg9
  z9 := Tryd.sizeOf9
  v9 := Tryd.zeroValue9 }
end Go.Proofs

/- text: small functions by contract: Len, of, meet, size, known. -/
set_option linter.unusedSimpArgs false
set_option linter.unusedVariables false
namespace Go.Proofs.YtioplgfopillnaaDoor
open Go.RowKit
set_option linter.unusedVariables false

/-- A component's value; what lies behind the opaque cells does not matter here. -/
abbrev tcV (k : Value) (p key : Value) (i : Int) (j : Value) (n : Int) (v0 v1 v2 v3 v4 s : Value) : Value := .agg #[k, p, key, .int .i64 i, j, .int .i64 n, v0, v1, v2, v3, v4, s]
abbrev TCOMP : Nat := 33
abbrev TSPAN : Nat := 115
def tknown (k : UInt8) : Bool := k == 8 || k == 9
theorem tkind_cases (k : UInt8) : k = 8 ∨ k = 9 ∨ (tknown k = false ∧ ((k.toNat : Int) == 8) = false ∧ ((k.toNat : Int) == 9) = false) := by
  by_cases h8 : k = 8
  · exact .inl h8
  by_cases h9 : k = 9
  · exact .inr (.inl h9)
  have hn : ∀ n : Nat, n < 256 → k ≠ UInt8.ofNat n → ((k.toNat : Int) == (n : Int)) = false := fun n hn h => by
    simp only [beq_eq_false_iff_ne, ne_eq]
    intro e
    apply h
    apply UInt8.toNat.inj
    simp; omega
  exact .inr (.inr ⟨by simp [tknown, h8, h9], hn 8 (by omega) h8, hn 9 (by omega) h9⟩)

theorem ext_iter (w : World) (s : ByteArray) (p : Nat) : Ext w (w.iter s p) := by
  unfold World.iter
  exact (Keep.refl _ _).alloc _
theorem tlen_any (s : ByteArray) (hs : s.size ≤ 140737488355328) (w : World) : Calls Tryd.prog 98 #[.string s] w fun e w' => e = .returned (.int .i64 (Lib.runeCount s : Nat)) ∧ Ext w w' := by
  go_enter Tryd.func98, Tryd.ntmps98
  go_wp2_with fail
  refine (Any.utf8_RuneCountInString Tryd.laysRC s w (by omega)).mono ?_
  rintro e w1 ⟨rfl, p, rfl⟩
  have hE := ext_iter w s p
  generalize w.iter s p = w1 at *
  go_wp2
  go_ret
  exact ⟨rfl, hE⟩
theorem tof_any (k p key j v0 v1 v2 v3 v4 s : Value) (i n : Int) (hi : -1152921504606846976 ≤ i ∧ i ≤ 1152921504606846976) (hn : -1152921504606846976 ≤ n ∧ n ≤ 1152921504606846976) (w : World) :
    Calls Tryd.prog 99 #[tcV k p key i j n v0 v1 v2 v3 v4 s] w fun e w' => e = .returned (.agg #[.int .i64 i, .int .i64 (i + n)]) ∧ Ext w w' := by
  go_enter Tryd.func99, Tryd.ntmps99
  go_wp2
  have hE : Ext w ((w.alloc (.cells #[k, p, key, .int .i64 i, j, .int .i64 n, v0, v1, v2, v3, v4, s] TCOMP)).alloc (.cells #[.int .i64 i, .int .i64 (i + n)] TSPAN)) := ((Keep.refl _ _).alloc _).alloc _
  refine bodyPost_ret (v := .agg #[.int .i64 i, .int .i64 (i + n)]) (by simp [results, Tryd.results99, go_sem]) rfl ⟨rfl, hE⟩
theorem tmeet_any (a b c d : Int) (w : World) :
    Calls Tryd.prog 100 #[.agg #[.int .i64 a, .int .i64 b], .agg #[.int .i64 c, .int .i64 d]] w fun e w' => e = .returned (.agg #[.int .i64 (max a c), .int .i64 (min b d)]) ∧ Ext w w' := by
  go_enter Tryd.func100, Tryd.ntmps100
  go_wp2
  have hE : Ext w (((w.alloc (.cells #[.int .i64 a, .int .i64 b] TSPAN)).alloc (.cells #[.int .i64 c, .int .i64 d] TSPAN)).alloc (.cells #[.int .i64 (max a c), .int .i64 (min b d)] TSPAN)) := (((Keep.refl _ _).alloc _).alloc _).alloc _
  refine bodyPost_ret (v := .agg #[.int .i64 (max a c), .int .i64 (min b d)]) (by simp [results, Tryd.results100, go_sem]) rfl ⟨rfl, hE⟩
theorem tsize_any (a b : Int) (ha : -2305843009213693952 ≤ a ∧ a ≤ 2305843009213693952) (hb : -2305843009213693952 ≤ b ∧ b ≤ 2305843009213693952) (w : World) :
    Calls Tryd.prog 101 #[.agg #[.int .i64 a, .int .i64 b]] w fun e w' => e = .returned (.int .i64 (max (b - a) 0)) ∧ Ext w w' := by
  go_enter Tryd.func101, Tryd.ntmps101
  go_wp2
  go_ret
  exact ⟨rfl, (Keep.refl _ _).alloc _⟩
theorem tknown_any (k : UInt8) (p key j nn v0 v1 v2 v3 v4 s : Value) (i : Value) (w : World) :
    Calls Tryd.prog 84 #[.agg #[U8 k, p, key, i, j, nn, v0, v1, v2, v3, v4, s]] w fun e w' => e = .returned (.bool (tknown k)) ∧ Ext w w' := by
  rcases tkind_cases k with rfl | rfl | ⟨h0, h8, h9⟩
  all_goals
    go_enter Tryd.func84, Tryd.ntmps84
    go_wp2
    go_ret
    exact ⟨by first | rfl | (rw [h0]; rfl), (Keep.refl _ _).alloc _⟩
end Go.Proofs.YtioplgfopillnaaDoor

/- text.shrink, split, shift by contract. -/
set_option linter.unusedSimpArgs false
set_option linter.unusedVariables false
namespace Go.Proofs.YtioplgfopillnaaDoor
open Go.RowKit
set_option linter.unusedVariables false

/-- A deletion behind another one: place, number. -/
def shrinkL (ai an bi bn : Int) : Int × Int := (ai - max (min (bi + bn) ai - bi) 0, an - max (min (ai + an) (bi + bn) - max ai bi) 0)
/-- Small numbers, not below 0. -/
def Tm (i : Int) : Prop := 0 ≤ i ∧ i ≤ 1152921504606846976
abbrev tcA (k p key : Value) (i : Int) (j : Value) (n : Int) (v0 v1 v2 v3 v4 s : Value) : Array Value := #[k, p, key, .int .i64 i, j, .int .i64 n, v0, v1, v2, v3, v4, s]
abbrev tcL (k p key : Value) (i : Int) (j : Value) (n : Int) (v0 v1 v2 v3 v4 s : Value) : List Value := [k, p, key, .int .i64 i, j, .int .i64 n, v0, v1, v2, v3, v4, s]
/-- Components that are one but for place and number. -/
def ETt (k p key j v0 v1 v2 v3 v4 s : Value) : El (Int × Int) := { size := 12, rd := fun _ _ cs x => cs = tcL k p key x.1 j x.2 v0 v1 v2 v3 v4 s }
/-- What is handed back: new memory. -/
def TextIs (k p key j v0 v1 v2 v3 v4 s : Value) (w : World) (l : List (Int × Int)) (e : Ending) (w' : World) : Prop :=
  ∃ v, e = .returned v ∧ Own (ETt k p key j v0 v1 v2 v3 v4 s) w' w.heap.size TCOMP (fun _ => False) v l ∧ Ext w w'

theorem text_nil (k p key j v0 v1 v2 v3 v4 s : Value) {w w' : World} (hE : Ext w w') : TextIs k p key j v0 v1 v2 v3 v4 s w [] (.returned (.slice none 0 0)) w' := ⟨_, rfl, Own.nil _ _ _ _, hE⟩
theorem text_one (k p key j v0 v1 v2 v3 v4 s : Value) {w W : World} {g : Nat} {i n : Int} (hE : Ext w W) (hg : W.heap.size = g) :
    TextIs k p key j v0 v1 v2 v3 v4 s w [(i, n)] (.returned (.slice (some ⟨g, 0, none⟩) 1 1)) (W.alloc (.cells (tcA k p key i j n v0 v1 v2 v3 v4 s) TCOMP)) := by
  subst hg
  exact ⟨_, rfl, .inr ⟨_, 1, _, rfl, hE.size, Blk.new _ _ _, Nat.le_refl _, by simp [maxLen], rfl, Cells.single rfl⟩, hE.alloc _⟩
theorem text_two (k p key j v0 v1 v2 v3 v4 s : Value) {w W : World} {g : Nat} {i n i' n' : Int} (hE : Ext w W) (hg : W.heap.size = g) :
    TextIs k p key j v0 v1 v2 v3 v4 s w [(i, n), (i', n')] (.returned (.slice (some ⟨g, 0, none⟩) 2 2)) (W.alloc (.cells #[k, p, key, .int .i64 i, j, .int .i64 n, v0, v1, v2, v3, v4, s, k, p, key, .int .i64 i', j, .int .i64 n', v0, v1, v2, v3, v4, s] TCOMP)) := by
  subst hg
  exact ⟨_, rfl, .inr ⟨_, 2, _, rfl, hE.size, Blk.new _ _ _, Nat.le_refl _, by simp [maxLen], rfl, ⟨tcL k p key i j n v0 v1 v2 v3 v4 s, tcL k p key i' j n' v0 v1 v2 v3 v4 s, rfl, rfl, Cells.single rfl⟩⟩, hE.alloc _⟩
theorem blk12 {w : World} {g : Nat} {T : TypeId} {x0 x1 x2 x3 x4 x5 x6 x7 x8 x9 x10 x11 : Value} (h : Blk w g T #[x0, x1, x2, x3, x4, x5, x6, x7, x8, x9, x10, x11]) :
    w.cell? ⟨g, 0, none⟩ = some x0 ∧ w.cell? ⟨g, 1, none⟩ = some x1 ∧ w.cell? ⟨g, 2, none⟩ = some x2 ∧ w.cell? ⟨g, 3, none⟩ = some x3 ∧ w.cell? ⟨g, 4, none⟩ = some x4 ∧ w.cell? ⟨g, 5, none⟩ = some x5 ∧
    w.cell? ⟨g, 6, none⟩ = some x6 ∧ w.cell? ⟨g, 7, none⟩ = some x7 ∧ w.cell? ⟨g, 8, none⟩ = some x8 ∧ w.cell? ⟨g, 9, none⟩ = some x9 ∧ w.cell? ⟨g, 10, none⟩ = some x10 ∧ w.cell? ⟨g, 11, none⟩ = some x11 :=
  ⟨h.cell 0, h.cell 1, h.cell 2, h.cell 3, h.cell 4, h.cell 5, h.cell 6, h.cell 7, h.cell 8, h.cell 9, h.cell 10, h.cell 11⟩
/-- A new span. -/
def BoxS (k n m : Nat) (v : Value) (w : World) : Prop := v = .pointer (some ⟨n, 0, none⟩) ∧ (k ≤ n ∧ n < m) ∧ Blk w n TSPAN #[.int .i64 0, .int .i64 0]
theorem BoxS.ext {k n m : Nat} {v : Value} {w w' : World} (h : BoxS k n m v w) (he : Ext w w') : BoxS k n m v w' := ⟨h.1, h.2.1, h.2.2.keep he id⟩
def span2 (w : World) (g : Nat) (a b : Int) : World := (w.setCell ⟨g, 0, none⟩ (.int .i64 a)).setCell ⟨g, 1, none⟩ (.int .i64 b)
theorem span2_keep (w : World) (g : Nat) (a b : Int) : Keep (· = g) w (span2 w g a b) := ((Keep.refl _ _).set1 0 _).set1 1 _
theorem span2_blk {w : World} {g : Nat} {x y : Value} (h : Blk w g TSPAN #[x, y]) (a b : Int) : Blk (span2 w g a b) g TSPAN #[.int .i64 a, .int .i64 b] := (h.set_ 0 _).set_ 1 _

set_option maxRecDepth 100000 in
set_option maxHeartbeats 1600000 in
theorem shrink_any (k p key j x0 x1 x2 x3 x4 s k' p' key' j' u0 u1 u2 u3 u4 s' : Value) (ai an bi bn : Int) (hai : Tm ai) (han : Tm an) (hbi : Tm bi) (hbn : Tm bn) (w : World) :
    Calls Tryd.prog 87 #[tcV k p key ai j an x0 x1 x2 x3 x4 s, tcV k' p' key' bi j' bn u0 u1 u2 u3 u4 s'] w
      (TextIs k p key j x0 x1 x2 x3 x4 s w (if (shrinkL ai an bi bn).2 = 0 then [] else [shrinkL ai an bi bn])) := by
  obtain ⟨hai1, hai2⟩ := hai
  obtain ⟨han1, han2⟩ := han
  obtain ⟨hbi1, hbi2⟩ := hbi
  obtain ⟨hbn1, hbn2⟩ := hbn
  obtain ⟨W0, hW0⟩ : ∃ W0, (w.alloc (.cells (tcA k p key ai j an x0 x1 x2 x3 x4 s) TCOMP)).alloc (.cells (tcA k' p' key' bi j' bn u0 u1 u2 u3 u4 s') TCOMP) = W0 := ⟨_, rfl⟩
  have hE0 : Ext w W0 := by rw [← hW0]; exact ((Keep.refl _ _).alloc _).alloc _
  have hsz : W0.heap.size = w.heap.size + 2 := by rw [← hW0]; simp
  have ha : Blk W0 w.heap.size TCOMP (tcA k p key ai j an x0 x1 x2 x3 x4 s) := by rw [← hW0]; exact (Blk.new w TCOMP _).alloc _
  have hb : Blk W0 (w.heap.size + 1) TCOMP (tcA k' p' key' bi j' bn u0 u1 u2 u3 u4 s') := by
    have := Blk.new (w.alloc (.cells (tcA k p key ai j an x0 x1 x2 x3 x4 s) TCOMP)) TCOMP (tcA k' p' key' bi j' bn u0 u1 u2 u3 u4 s')
    rw [World.size_alloc] at this
    rw [← hW0]; exact this
  have HIF := hid (show ∀ r : Int × Int, (if (shrinkL ai an bi bn).2 = 0 then [] else [shrinkL ai an bi bn]) = (if (shrinkL ai an bi bn).2 = 0 then [] else [shrinkL ai an bi bn]) from fun _ => rfl)
  generalize hR : (if (shrinkL ai an bi bn).2 = 0 then ([] : List (Int × Int)) else [shrinkL ai an bi bn]) = R
  have HR := hid hR
  clear hR HIF
  have qa3 := ha.cell 3
  have qa5 := ha.cell 5
  have HW0 := hid hW0
  have HE0 := hid hE0
  have HA := hid ha
  have HB := hid hb
  have HSZ := hid hsz
  have hva : ∀ i, W0.cell? ⟨w.heap.size, i, none⟩ = (tcA k p key ai j an x0 x1 x2 x3 x4 s)[i]? := fun i => ha.cell i
  have hvb : ∀ i, W0.cell? ⟨w.heap.size + 1, i, none⟩ = (tcA k' p' key' bi j' bn u0 u1 u2 u3 u4 s')[i]? := fun i => hb.cell i
  clear hW0 hE0 ha hb hsz qa3 qa5 hva hvb
  go_enter Tryd.func87, Tryd.ntmps87
  go_wp2_with fail
  rw [HW0.out]
  obtain ⟨a0, a1, a2, a3, a4, a5, a6, a7, a8, a9, a10, a11⟩ := blk12 HA.out
  obtain ⟨b0, b1, b2, b3, b4, b5, b6, b7, b8, b9, b10, b11⟩ := blk12 HB.out
  refine H.wp_region_parts [] [0, 1, 2, 3, 4, 5] [6, 7] (H.specOf [(1, fun n m v w => v = .agg #[.int .i64 ai, .int .i64 (ai + an)]), (3, fun n m v w => v = .agg #[.int .i64 bi, .int .i64 (bi + bn)]), (4, BoxS W0.heap.size), (5, BoxS W0.heap.size)])
    (fun w' => Ext W0 w') ?_ (H.stableC_ext _) (by kernel_rfl) (by kernel_rfl) (Keep.drew (Keep.refl _ _)) ?_
  · exact H.stable_cons (fun n m v w w' h he => h) (H.stable_cons (fun n m v w w' h he => h) (H.stable_cons (fun n m v w w' h he => h.ext he) (H.stable_cons (fun n m v w w' h he => h.ext he) H.stable_nil)))
  refine H.pure_nil ?_
  iterate 1
    (try simp only [Act.put, List.setIfInBounds_toArray, List.set_cons_zero, List.set_cons_succ])
    refine H.growP_run rfl rfl rfl ?_
    apply Exists.intro
    refine ⟨fun w' hC hK => ?_, ?_⟩
    · have a0 := (hC.cell (lt_of_cell a0) id).trans a0
      have a1 := (hC.cell (lt_of_cell a1) id).trans a1
      have a2 := (hC.cell (lt_of_cell a2) id).trans a2
      have a3 := (hC.cell (lt_of_cell a3) id).trans a3
      have a4 := (hC.cell (lt_of_cell a4) id).trans a4
      have a5 := (hC.cell (lt_of_cell a5) id).trans a5
      have a6 := (hC.cell (lt_of_cell a6) id).trans a6
      have a7 := (hC.cell (lt_of_cell a7) id).trans a7
      have a8 := (hC.cell (lt_of_cell a8) id).trans a8
      have a9 := (hC.cell (lt_of_cell a9) id).trans a9
      have a10 := (hC.cell (lt_of_cell a10) id).trans a10
      have a11 := (hC.cell (lt_of_cell a11) id).trans a11
      go_simp
      rfl
  (try simp only [Act.put, List.setIfInBounds_toArray, List.set_cons_zero, List.set_cons_succ])
  refine H.growP_eff rfl rfl rfl (fun w' hC hK => ?_) (fun v1 nv1 mv1 hv1 => ?_)
  · unfold H.growAt
    go_simp
    refine H.grow_call ((tof_any _ _ _ _ _ _ _ _ _ _ _ _ (by omega) (by omega) w').mono ?_)
    rintro e w'' ⟨rfl, h1⟩
    exact ⟨_, rfl, h1, rfl⟩
  obtain ⟨_, _, rfl⟩ := hv1.head
  clear hv1
  iterate 1
    (try simp only [Act.put, List.setIfInBounds_toArray, List.set_cons_zero, List.set_cons_succ])
    refine H.growP_run rfl rfl rfl ?_
    apply Exists.intro
    refine ⟨fun w' hC hK => ?_, ?_⟩
    · have b0 := (hC.cell (lt_of_cell b0) id).trans b0
      have b1 := (hC.cell (lt_of_cell b1) id).trans b1
      have b2 := (hC.cell (lt_of_cell b2) id).trans b2
      have b3 := (hC.cell (lt_of_cell b3) id).trans b3
      have b4 := (hC.cell (lt_of_cell b4) id).trans b4
      have b5 := (hC.cell (lt_of_cell b5) id).trans b5
      have b6 := (hC.cell (lt_of_cell b6) id).trans b6
      have b7 := (hC.cell (lt_of_cell b7) id).trans b7
      have b8 := (hC.cell (lt_of_cell b8) id).trans b8
      have b9 := (hC.cell (lt_of_cell b9) id).trans b9
      have b10 := (hC.cell (lt_of_cell b10) id).trans b10
      have b11 := (hC.cell (lt_of_cell b11) id).trans b11
      go_simp
      rfl
  (try simp only [Act.put, List.setIfInBounds_toArray, List.set_cons_zero, List.set_cons_succ])
  refine H.growP_eff rfl rfl rfl (fun w' hC hK => ?_) (fun v3 nv3 mv3 hv3 => ?_)
  · unfold H.growAt
    go_simp
    refine H.grow_call ((tof_any _ _ _ _ _ _ _ _ _ _ _ _ (by omega) (by omega) w').mono ?_)
    rintro e w'' ⟨rfl, h1⟩
    exact ⟨_, rfl, h1, rfl⟩
  obtain ⟨_, _, rfl⟩ := hv3.head
  clear hv3
  (try simp only [Act.put, List.setIfInBounds_toArray, List.set_cons_zero, List.set_cons_succ])
  refine H.growP_eff rfl rfl rfl (fun w' hC hK => ?_) (fun v4 nv4 mv4 hv4 => ?_)
  · unfold H.growAt
    go_simp
    exact ⟨(Keep.refl _ _).alloc _, rfl, ⟨hC.size, by simp⟩, Blk.new _ _ _⟩
  obtain ⟨_, _, rfl, _, _⟩ := hv4.head
  (try simp only [Act.put, List.setIfInBounds_toArray, List.set_cons_zero, List.set_cons_succ])
  refine H.growP_eff rfl rfl rfl (fun w' hC hK => ?_) (fun v5 nv5 mv5 hv5 => ?_)
  · unfold H.growAt
    go_simp
    exact ⟨(Keep.refl _ _).alloc _, rfl, ⟨hC.size, by simp⟩, Blk.new _ _ _⟩
  obtain ⟨_, _, rfl, _, _⟩ := hv5.head
  refine H.growP_nil fun W1 hC hK => ?_
  have hs4 : BoxS W0.heap.size nv4 mv4 (.pointer (some ⟨nv4, 0, none⟩)) W1 := (hK.1 (4, _) (List.mem_cons_of_mem _ List.mem_cons_self)).1
  have hs5 : BoxS W0.heap.size nv5 mv5 (.pointer (some ⟨nv5, 0, none⟩)) W1 := (hK.1 (5, _) List.mem_cons_self).1
  have hap : mv5 ≤ nv4 ∨ mv4 ≤ nv5 := hK.2 (5, _) List.mem_cons_self (4, _) (List.mem_cons_of_mem _ List.mem_cons_self) (by simp)
  have hne : nv4 ≠ nv5 := by have := hs4.2.1; have := hs5.2.1; omega
  have hC : Ext W0 W1 := hC
  have hz := HSZ.out
  obtain ⟨⟨h4a, _⟩, hb4⟩ := hs4.2
  obtain ⟨⟨h5a, _⟩, hb5⟩ := hs5.2
  have c40 := hb4.cell 0
  have c41 := hb4.cell 1
  have f40 := hb4.frozen 0
  have f41 := hb4.frozen 1
  have c50 := hb5.cell 0
  have c51 := hb5.cell 1
  have f50 := hb5.frozen 0
  have f51 := hb5.frozen 1
  simp at c40 c41 c50 c51
  have hk : Keep (fun q => q = nv4 ∨ q = nv5) W1 (span2 (span2 W1 nv4 ai (ai + an)) nv5 bi (bi + bn)) :=
    ((span2_keep W1 nv4 _ _).mono (G := fun q => q = nv4 ∨ q = nv5) fun _ _ h => .inl h).trans (span2_keep _ _ _ _) fun _ _ h => .inr h
  have HX := hid (show Blk (span2 (span2 W1 nv4 ai (ai + an)) nv5 bi (bi + bn)) nv4 TSPAN #[.int .i64 ai, .int .i64 (ai + an)] from (span2_blk hb4 _ _).keep (span2_keep _ _ _ _) hne)
  have HY := hid (show Blk (span2 (span2 W1 nv4 ai (ai + an)) nv5 bi (bi + bn)) nv5 TSPAN #[.int .i64 bi, .int .i64 (bi + bn)] from span2_blk (hb5.keep (span2_keep _ _ _ _) hne.symm) _ _)
  have HE := hid (show Ext W0 (span2 (span2 W1 nv4 ai (ai + an)) nv5 bi (bi + bn)) from hC.trans hk fun q hq e => by omega)
  have H4 := hid h4a
  have H5 := hid h5a
  clear hs4 hs5 hap hk hC hK hb4 hb5 hv4 hv5 a0 a1 a2 a3 a4 a5 a6 a7 a8 a9 a10 a11 b0 b1 b2 b3 b4 b5 b6 b7 b8 b9 b10 b11 h4a h5a hz
  change wpList _ _ _ (_ :: _ :: []) _ _
  (try simp only [Act.put, List.setIfInBounds_toArray, List.set_cons_zero, List.set_cons_succ])
  go_wp2_with fail
  refine NoPanic.normal ?_
  change Exit.then _ _ Exit.normal _ (span2 (span2 W1 nv4 ai (ai + an)) nv5 bi (bi + bn))
  generalize span2 (span2 W1 nv4 ai (ai + an)) nv5 bi (bi + bn) = W2 at *
  clear f40 f41 f50 f51 c40 c41 c50 c51 hC
  have x0' := HX.out.cell 0
  have x1' := HX.out.cell 1
  have y0' := HY.out.cell 0
  have y1' := HY.out.cell 1
  simp at x0' x1' y0' y1'
  go_wp2_with fail
  refine (tmeet_any _ _ _ _ _).mono ?_
  rintro e W3 ⟨rfl, hE3⟩
  have HE3 := hid hE3
  clear hE3
  go_wp2_with fail
  refine (tsize_any _ _ (by omega) (by omega) _).mono ?_
  rintro e W4 ⟨rfl, hE4⟩
  have hE4' := HE3.out.ext hE4
  have HA4 := hid (HA.out.keep (HE.out.ext hE4') id)
  have HX4 := hid (HX.out.keep hE4' id)
  have HY4 := hid (HY.out.keep hE4' id)
  have HE4 := hid (HE.out.ext hE4')
  obtain ⟨ah, hah⟩ : ∃ ah, max (min (bi + bn) ai - bi) 0 = ah := ⟨_, rfl⟩
  rw [hah]
  have HAH := hid hah
  have hahb : 0 ≤ ah ∧ ah ≤ 1152921504606846976 := by omega
  clear hE4 hE4' HX HY HE HE3 x0' x1' y0' y1' hah
  obtain ⟨a0, a1, a2, a3, a4, a5, a6, a7, a8, a9, a10, a11⟩ := blk12 HA4.out
  have z0 := HX4.out.cell 0
  have z1 := HX4.out.cell 1
  have y0 := HY4.out.cell 0
  have y1 := HY4.out.cell 1
  simp at z0 z1 y0 y1
  go_wp2_with fail
  obtain ⟨bo, hbo⟩ : ∃ bo, max (min (ai + an) (bi + bn) - max ai bi) 0 = bo := ⟨_, rfl⟩
  have hbob : 0 ≤ bo ∧ bo ≤ an := by omega
  have HBO := hid hbo
  clear hbo
  refine wp_region_parts [0] [1, 2, 3, 4, 5, 6] [7, 8] (specOf [(4, fun v w => v = .agg #[.int .i64 (max ai bi), .int .i64 (min (ai + an) (bi + bn))]), (5, fun v w => v = .int .i64 bo)])
    (fun w' => Ext W4 w') (stable_cons (fun v w w' h he => h) (stable_cons (fun v w w' h he => h) stable_nil)) (stableC_ext _) (by kernel_rfl) (by kernel_rfl) (Keep.drew (Keep.refl _ _)) ?_
  iterate 1
    (try simp only [Act.put, List.setIfInBounds_toArray, List.set_cons_zero, List.set_cons_succ])
    refine pure_run rfl rfl ?_
    apply Exists.intro
    refine ⟨fun w' => ?_, ?_⟩
    · go_simp
      rfl
  refine pure_nil ?_
  iterate 3
    (try simp only [Act.put, List.setIfInBounds_toArray, List.set_cons_zero, List.set_cons_succ])
    refine growP_run rfl rfl rfl ?_
    apply Exists.intro
    refine ⟨fun w' hC hK => ?_, ?_⟩
    · have a5 := (hC.cell (lt_of_cell a5) id).trans a5
      have z0 := (hC.cell (lt_of_cell z0) id).trans z0
      have z1 := (hC.cell (lt_of_cell z1) id).trans z1
      have y0 := (hC.cell (lt_of_cell y0) id).trans y0
      have y1 := (hC.cell (lt_of_cell y1) id).trans y1
      go_simp
      rfl
  (try simp only [Act.put, List.setIfInBounds_toArray, List.set_cons_zero, List.set_cons_succ])
  refine growP_eff rfl rfl rfl (fun w' hC hK => ?_) (fun v4 hv4 => ?_)
  · unfold growAt
    go_simp
    refine grow_call ((tmeet_any _ _ _ _ w').mono ?_)
    rintro e w'' ⟨rfl, h1⟩
    exact ⟨_, rfl, h1, rfl⟩
  obtain ⟨_, _, rfl⟩ := hv4.head
  clear hv4
  (try simp only [Act.put, List.setIfInBounds_toArray, List.set_cons_zero, List.set_cons_succ])
  refine growP_eff rfl rfl rfl (fun w' hC hK => ?_) (fun v5 hv5 => ?_)
  · unfold growAt
    go_simp
    refine grow_call ((tsize_any _ _ (by omega) (by omega) w').mono ?_)
    rintro e w'' ⟨rfl, h1⟩
    exact ⟨_, rfl, h1, by rw [HBO.out]⟩
  obtain ⟨_, _, rfl⟩ := hv5.head
  clear hv5
  iterate 1
    (try simp only [Act.put, List.setIfInBounds_toArray, List.set_cons_zero, List.set_cons_succ])
    refine growP_run rfl rfl rfl ?_
    apply Exists.intro
    refine ⟨fun w' hC hK => ?_, ?_⟩
    · go_simp
      rfl
  refine growP_nil fun W5 hC hK => ?_
  have hC : Ext W4 W5 := hC
  have hb5 := HA4.out.keep hC id
  have q5 := hb5.cell 5
  have f5 := hb5.frozen 5
  simp at q5
  have HA5 := hid hb5
  have HE5 := hid (HE4.out.ext hC)
  clear hC hK hb5 a0 a1 a2 a3 a4 a5 a6 a7 a8 a9 a10 a11 z0 z1 y0 y1
  change wpList _ _ _ (_ :: _ :: []) _ _
  (try simp only [Act.put, List.setIfInBounds_toArray, List.set_cons_zero, List.set_cons_succ])
  go_wp2_with fail
  refine NoPanic.normal ?_
  have hb6 := HA5.out.set_ 5 (.int .i64 (an - bo))
  have hk6 : Keep (· = w.heap.size) W5 (W5.setCell ⟨w.heap.size, 5, none⟩ (.int .i64 (an - bo))) := (Keep.refl _ _).set1 5 _
  have q3 := hb6.cell 3
  have f3 := hb6.frozen 3
  have f5' := hb6.frozen 5
  have q5' := hb6.cell 5
  simp at q3 q5'
  have HA6 := hid hb6
  have HK6 := hid hk6
  generalize W5.setCell ⟨w.heap.size, 5, none⟩ (.int .i64 (an - bo)) = W6 at *
  clear hb6 hk6 q5 f5
  have hb7 := HA6.out.set_ 3 (.int .i64 (ai - ah))
  have hk7 : Keep (· = w.heap.size) W6 (W6.setCell ⟨w.heap.size, 3, none⟩ (.int .i64 (ai - ah))) := (Keep.refl _ _).set1 3 _
  obtain ⟨c0, c1, c2, c3, c4, c5, c6, c7, c8, c9, c10, c11⟩ := blk12 hb7
  have HA7 := hid hb7
  have HK7 := hid hk7
  clear hb7 hk7
  have hsh : shrinkL ai an bi bn = (ai - ah, an - bo) := by unfold shrinkL; rw [← HAH.out, ← HBO.out]
  by_cases hn : an - bo = 0
  · have hr : R = [] := by rw [← HR.out, hsh, if_pos hn]
    have HRR := hid hr
    have HN := hid (show (an - bo == 0) = true from by simpa using hn)
    have hn' := HN.out
    clear hr hn hsh
    go_wp2
    go_ret
    rw [HRR.out]
    exact text_nil _ _ _ _ _ _ _ _ _ _ (HE0.out.trans ((HE5.out.mono fun _ _ h => h.elim : Keep (· = w.heap.size) W0 W5).trans HK6.out (fun _ _ h => h) |>.trans HK7.out fun _ _ h => h) fun q hq e => by omega)
  · have hr : R = [(ai - ah, an - bo)] := by rw [← HR.out, hsh, if_neg hn]
    have HRR := hid hr
    have hn' : (an - bo == 0) = false := by simpa using hn
    clear hr hn hsh
    go_wp2
    go_ret
    rw [HRR.out]
    exact text_one _ _ _ _ _ _ _ _ _ _ (HE0.out.trans ((HE5.out.mono fun _ _ h => h.elim : Keep (· = w.heap.size) W0 W5).trans HK6.out (fun _ _ h => h) |>.trans HK7.out fun _ _ h => h) fun q hq e => by omega) (by simp)
end Go.Proofs.YtioplgfopillnaaDoor
