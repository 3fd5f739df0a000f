/- SnapK0, SnapK, SnapH, SnapF: laid together. -/
import Derived.Test.YtihaliffcobacaaGreatDoorSaB18
import Derived.Test.YtihaliffcobacaaGreatDoorSaB25
import Derived.Test.YtihaliffcobacaaGreatDoorSaB23
import Derived.Test.YtihaliffcobacaaGreatDoorSaB2
import Derived.Test.YtihaliffcobacaaGreatDoorSaB4
set_option linter.unusedSimpArgs false
set_option linter.unusedVariables false
set_option maxHeartbeats 25600000
set_option maxRecDepth 20000
namespace Go.Proofs.YtihaliffcobacaaGreatDoor
open Go.RowKit
structure Dk (w : World) (N : BS) (wx : World) (B : BS) (d : Nat) (cs : List DC) (s : DSt) : Prop where
 is : DiskIs wx B d cs s
 no : ∀ k, B k → ¬ N k
 low : ∀ k, B k → w.heap.size ≤ k ∧ k < wx.heap.size
 ext : Ext w wx
 own : ∀ k, N k → w.heap.size ≤ k ∧ k < wx.heap.size
section
variable {w wx wy : World} {N B : BS} {d : Nat} {cs cs' : List DC} {s s' : DSt}
theorem Dk.new {w wx wy : World} {N B : BS} {d : Nat} {cs : List DC} {s : DSt} (h : DskW w wy B d cs s) (hl : ∀ k, B k → wx.heap.size ≤ k) (hE : Ext wx wy) (hN : ∀ k, N k → w.heap.size ≤ k ∧ k < wx.heap.size) : Dk w N wy B d cs s :=
 ⟨h.is, fun k hb hn => by have := hl k hb; have := (hN k hn).2; omega, h.low, h.ext, fun k hn => ⟨(hN k hn).1, Nat.lt_of_lt_of_le (hN k hn).2 hE.size⟩⟩
theorem Dk.step (h : Dk w N wx B d cs s) (hk : Keep B wx wy) (hd : DiskIs wy B d cs' s') : Dk w N wy B d cs' s' :=
 ⟨hd, h.no, fun k hb => ⟨(h.low k hb).1, Nat.lt_of_lt_of_le (h.low k hb).2 hk.size⟩, h.ext.trans hk fun k hk hb => by have := (h.low k hb).1; omega, fun k hn => ⟨(h.own k hn).1, Nat.lt_of_lt_of_le (h.own k hn).2 hk.size⟩⟩
theorem Dk.grow (h : Dk w N wx B d cs s) (hk : Keep B wx wy) (hd : DiskIs wy (moreB B wx wy) d cs' s') : Dk w N wy (moreB B wx wy) d cs' s' :=
 ⟨hd, fun k hb hn => by
  rcases hb with hb | hb
  ·exact h.no k hb hn
  ·have := (h.own k hn).2; omega, fun k hb => by
  have := hk.size; have := h.ext.size
  rcases hb with hb | hb
  ·have := h.low k hb; omega
  ·omega, h.ext.trans hk fun k hk hb => by have := (h.low k hb).1; omega, fun k hn => ⟨(h.own k hn).1, Nat.lt_of_lt_of_le (h.own k hn).2 hk.size⟩⟩
theorem Dk.more (h : Dk w N wx B d cs s) (hE : Ext wx wy) : Dk w (fun k => N k ∨ (wx.heap.size ≤ k ∧ k < wy.heap.size)) wy B d cs s :=
 ⟨h.is.ext hE, fun k hb hn => by
  rcases hn with hn | hn
  ·exact h.no k hb hn
  ·have := (h.low k hb).2; omega, fun k hb => ⟨(h.low k hb).1, Nat.lt_of_lt_of_le (h.low k hb).2 hE.size⟩, h.ext.ext hE, fun k hn => by
  have := h.ext.size; have := hE.size
  rcases hn with hn | hn
  ·have := h.own k hn; omega
  ·omega⟩
theorem Dk.less {N' : BS} (h : Dk w N wx B d cs s) (hN : ∀ k, N' k → N k) : Dk w N' wx B d cs s := ⟨h.is, fun k hb hn => h.no k hb (hN k hn), h.low, h.ext, fun k hn => h.own k (hN k hn)⟩
theorem Dk.set (h : Dk w N wx B d cs s) (hk : Keep N wx wy) : Dk w N wy B d cs s :=
 ⟨h.is.keep hk fun k hb => h.no k hb, h.no, fun k hb => ⟨(h.low k hb).1, Nat.lt_of_lt_of_le (h.low k hb).2 hk.size⟩, h.ext.trans hk fun k hk2 hn => by have := (h.own k hn).1; omega, fun k hn => ⟨(h.own k hn).1, Nat.lt_of_lt_of_le (h.own k hn).2 hk.size⟩⟩
end
def vI (n : Int) : V := .mk 2 n ⟨#[]⟩ [] []
theorem vI_sv (n : Int) : SVd 0 (vI n) := ⟨by unfold vI; rw [SV]; exact ⟨.inr (.inr (.inl ⟨rfl, rfl, rfl, rfl⟩)), by rw [SVs]; trivial, by rw [SFs]; trivial, by first | trivial | simp [Rise]⟩,
 by unfold vI; simp [V.deep, V.deeps, F.deeps], by unfold vI; rw [VStr]; exact ⟨by decide, by rw [VStrs]; trivial, by rw [FStrs]; trivial⟩⟩
theorem vI_size (n : Int) : (vI n).size ≤ 241 := by unfold vI; rw [V.size, V.sizes, F.sizes]; decide
theorem vI_at {w : World} {S : BS} (n : Int) : VAt w S (.agg #[.int .u8 2, .int .i64 n, .string ⟨#[]⟩, .slice none 0 0, .slice none 0 0]) (vI n) := ⟨_, _, rfl, Sl.nil _ _, Sl.nil _ _⟩
theorem zV_at {w : World} {S : BS} : VAt w S (.agg #[.int .u8 0, .int .i64 0, .string ⟨#[]⟩, .slice none 0 0, .slice none 0 0]) zV := ⟨_, _, rfl, Sl.nil _ _, Sl.nil _ _⟩
def sh7 : Sh := ⟨3, true, vI 7⟩
theorem sh7_ok : ShOk sh7 ∧ Wide sh7.v ∧ (shB sh7).length = 18 := by
 obtain ⟨h1, h2, h3⟩ := built_good (vI_sv 7) (vI_size 7)
 have hc : valC (vI 7) = 0 := by unfold valC; rw [if_pos h2, if_neg (by omega)]
 have hb : valB (vI 7) = encV (vI 7) := by unfold valB; rw [if_pos hc]
 have he : (encV (vI 7)).length = 9 := by unfold vI; rw [encV]; simp [beN_len]
 have hl : (shB sh7).length = 18 := by unfold shB sh7; simp [beN_len, hb, he]
 refine ⟨⟨by decide, by decide, fun h => Bool.noConfusion h, by unfold shC; rw [if_pos (by rfl)]; exact hc, ?_, by omega⟩, h1, hl⟩
 show NAll N64 (vI 7)
 unfold vI; rw [NAll, NAlls, NFAlls]; exact ⟨⟨by decide, by decide⟩, trivial, trivial⟩
set_option maxRecDepth 100000 in
theorem known15_ok (w0 : World) (hva : ValAny w0) (w : World) (h0 : Ext w0 w) :
  Calls Tryz.prog 7 #[] w fun e w' => e = .returned (.bool true) ∧ Ext w w' := by
 have hpe := eql_pdsk
 have HVA := hid hva
 have H0 := hid h0
 clear hva h0
 go_enter Tryz.func7, Tryz.ntmps7
 go_wp2_with fail
 refine (disk_new_w w w 900 (by decide) (Keep.refl _ _)).mono ?_
 rintro e w1 ⟨d, B, rfl, hD, hlow, hE⟩
 have HD := hid hD
 have HE := hid hE
 clear hD hlow hE
 go_wp2_with fail
 refine (save_ok w0 HVA.out w1 B d [] _ ⟨#[97]⟩ sh7 sh7_ok.2.1 (H0.out.ext HE.out) HD.out.is (by decide) (fun _ => False) _ ⟨_, _, _, _, _, rfl, vI_at 7⟩).mono ?_
 rintro e w2 ⟨he, hd, hk⟩
 have hsv : saveR [] ⟨900, false, -1⟩ ⟨#[97]⟩ sh7 = (0, oneF ⟨#[97]⟩ [shB sh7], ⟨900, false, -1⟩) := by
  have := save_one (nm := ⟨#[97]⟩) (ls := []) (R := 900) (sh := sh7) (by decide) (by decide) sh7_ok.1 (by rw [sh7_ok.2.2]; decide)
  exact this
 rw [hsv] at he hd
 obtain rfl : e = .returned (.int .u16 0) := he
 have hD : DskW w w2 _ d (oneF ⟨#[97]⟩ [shB sh7]) ⟨900, false, -1⟩ := HD.out.grow hk hd
 clear hd hk hsv
 generalize moreB B w1 w2 = B2 at *
 replace HD := hid hD
 clear hD
 go_wp2_with fail
 have hrd : (readR (oneF ⟨#[97]⟩ [shB sh7]) (byt (fileT ⟨#[97]⟩))).2 = rowsL [shB sh7] := read_one _ _
 have hxl : ∀ x ∈ [shB sh7], x.length ≤ 60000 := fun x hx => by rw [List.mem_singleton.1 hx, sh7_ok.2.2]; decide
 refine (load_some w0 HVA.out w2 (H0.out.ext HD.out.ext) B2 d _ _ ⟨#[97]⟩ HD.out.is (by decide) [] sh7 sh7_ok.1 sh7_ok.2.1 (by rw [hrd, lensL_rows]; simp [lensL, sh7_ok.2.2]) (by rw [hrd, scan_rows _ hxl]; rfl)).mono ?_
 rintro e w3 ⟨u, rfl, ⟨a0, a1, a2, a3, a4, rfl, lv, ov, e1, hl, ho⟩, hE3⟩
 clear hrd hxl
 simp only [Value.agg.injEq, Array.mk.injEq, List.cons.injEq, and_true] at e1
 obtain ⟨rfl, rfl, rfl, rfl, rfl⟩ := e1
 obtain ⟨A4, c4, rfl, _⟩ := hl.shape
 obtain ⟨A5, c5, rfl, _⟩ := ho.shape
 obtain ⟨W3, hW3⟩ : ∃ W3, w3.alloc (.cells #[.int .i64 sh7.n, .bool sh7.there, U8 sh7.v.kind, .int .i64 sh7.v.n, .string sh7.v.s, .slice A4 sh7.v.l.length c4, .slice A5 sh7.v.o.length c5] TSHOT) = W3 := ⟨_, rfl⟩
 have hE4 : Ext w3 W3 := by rw [← hW3]; exact (Keep.refl _ _).alloc _
 have HBX := hid (show Blk W3 w3.heap.size TSHOT #[.int .i64 3, .bool true, .int .u8 2, .int .i64 7, .string ⟨#[]⟩, .slice A4 0 c4, .slice A5 0 c5] from by rw [← hW3]; exact Blk.new _ _ _)
 have HW3 := hid hW3
 replace HD := hid ((HD.out.more hE3).more hE4)
 clear hl ho hE3 hE4 hW3
 go_wp2_with fail
 have hrb : (readR (oneF ⟨#[97]⟩ [shB sh7]) (byt (fileT ⟨#[98]⟩))).2 = [] := by
  rw [one_last (by simp)]
  simp [readR, findC, show (byt (fileT ⟨#[97]⟩) == byt (fileT ⟨#[98]⟩)) = false from by decide]
 rw [show w3.alloc (.cells #[.int .i64 sh7.n, .bool sh7.there, U8 sh7.v.kind, .int .i64 sh7.v.n, .string sh7.v.s, .slice A4 sh7.v.l.length c4, .slice A5 sh7.v.o.length c5] TSHOT) = W3 from HW3.out]
 refine (load_no w0 HVA.out W3 (H0.out.ext HD.out.ext) B2 d _ _ ⟨#[98]⟩ HD.out.is (by decide) (by rw [hrb]; decide) (by rw [hrb, scanL_none openL_nil])).mono ?_
 rintro e w4 ⟨rfl, hE5⟩
 clear hrb
 replace HD := hid (HD.out.more hE5)
 obtain ⟨x0, x1, x2, x3, _, _, _⟩ := blk7s (HBX.out.keep hE5 id)
 have y0 : ∀ o, (w4.alloc o).cell? ⟨w3.heap.size, 0, none⟩ = some (.int .i64 3) := fun o => ((HBX.out.keep hE5 id).alloc o).cell 0
 have y1 : ∀ o, (w4.alloc o).cell? ⟨w3.heap.size, 1, none⟩ = some (.bool true) := fun o => ((HBX.out.keep hE5 id).alloc o).cell 1
 have y3 : ∀ o, (w4.alloc o).cell? ⟨w3.heap.size, 3, none⟩ = some (.int .i64 7) := fun o => ((HBX.out.keep hE5 id).alloc o).cell 3
 clear hE5 x0 x1 x2 x3
 go_wp2_with fail
 refine (save_ok w0 HVA.out _ B2 d _ _ ⟨#[]⟩ ⟨0, false, zV⟩ zV_wide (H0.out.ext (HD.out.ext.alloc _)) (HD.out.is.ext ((Keep.refl _ _).alloc _)) (by decide) (fun _ => False) _ ⟨_, _, _, _, _, rfl, zV_at⟩).mono ?_
 rintro e w5 ⟨he, hd, hk⟩
 rw [saveR_bad (show saveE ⟨#[]⟩ ⟨0, false, zV⟩ = 150 from if_pos (Or.inl rfl))] at he
 obtain rfl : e = .returned (.int .u16 150) := he
 have HEND := hid ((HD.out.more ((Keep.refl _ _).alloc _)).grow hk hd).ext
 clear hd hk
 go_wp2
 go_ret
 exact ⟨by first | rfl | simp, HEND.out⟩
def SomeB (w : World) (e : Ending) (w' : World) : Prop := (∃ b, e = .returned (.bool b)) ∧ w' = w
def LenB (w : World) (n : Nat) (e : Ending) (w' : World) : Prop := (∃ b : Bool, e = .returned (.bool b) ∧ (b = true ∨ n ≤ 30)) ∧ w' = w
set_option maxRecDepth 100000 in
theorem heavy15_len (w : World) (S : BS) (A : Option Addr) (c : Nat) (rs : List Rs) (h : Sl ERs w S (.slice A rs.length c) rs) :
  Calls Tryz.prog 6 #[.slice A rs.length c] w (LenB w rs.length) := by
 obtain ⟨n1, hn1⟩ : ∃ n1, rs.length = n1 := ⟨_, rfl⟩
 have HN1 := hid hn1
 obtain ⟨A', c', e, hlc, hcm⟩ := h.shape
 injection e with e1 _ e3
 subst e1 e3
 have HV := hid h
 rw [hn1] at HV hlc ⊢
 unfold maxLen at hcm
 clear h hn1
 go_enter Tryz.func6, Tryz.ntmps6
 go_wp2_with fail
 go_loop [3, 4] (fun y i => ∃ (j : Nat) (z : Int), j ≤ n1 ∧ i = .int .i64 j ∧ y = .int .i64 z) (fun _ i => n1 - (intOf i).toNat)
 case atStart => exact ⟨0, _, by omega, rfl, rfl⟩
 case round =>
  obtain ⟨j, z, hj, rfl, rfl⟩ := hrel
  by_cases hlt : j < n1
  ·have hX : (j : Int) < n1 := by omega
   obtain ⟨b2, o2, c2, rfl, _, _, hr2, hc2⟩ := HV.out.at_ ERs.ok (k := j) (by rw [HN1.out]; exact hlt)
   obtain ⟨At, ct, rfl, hct, hts⟩ := ERs_cells hr2
   have t3 := hc2 3 _ rfl
   have e4 : ERs.size = 4 := rfl
   simp only [e4] at t3
   generalize (rs[j]'(by rw [HN1.out]; exact hlt)).v = ts at *
   obtain ⟨At', ct', ee, _, hctm⟩ := hts.shape
   injection ee with ee1 _ ee3
   subst ee1 ee3
   obtain ⟨n2, hn2⟩ : ∃ n2, ts.length = n2 := ⟨_, rfl⟩
   have HN2 := hid hn2
   have HT := hid hts
   rw [hn2] at t3 HT hct
   unfold maxLen at hctm
   clear hc2 e4 hr2 hts hn2
   go_wp2_with fail
   go_loop [3, 5] (fun y i => ∃ (k : Nat) (z : Int), k ≤ n2 ∧ i = .int .i64 k ∧ y = .int .i64 z) (fun _ i => n2 - (intOf i).toNat)
   case atStart => exact ⟨0, _, by omega, rfl, rfl⟩
   case round =>
    obtain ⟨k, z2, hk, rfl, rfl⟩ := hrel
    by_cases hlt2 : k < n2
    ·have hX2 : (k : Int) < n2 := by omega
     obtain ⟨b3, o3, c3, rfl, _, _, hr3, hc3⟩ := HT.out.at_ ETok.ok (k := k) (by rw [HN2.out]; exact hlt2)
     have hr3 : c3 = [U8 _, .int .i64 _, .string _, U8 _] := hr3
     subst hr3
     have t2 := hc3 2 _ rfl
     have e4 : ETok.size = 4 := rfl
     simp only [e4] at t2
     clear hc3 e4
     go_wp2
     exact ⟨⟨k + 1, _, by omega, by go_num, rfl⟩, by simp [intOf]; omega⟩
    ·obtain rfl : k = n2 := by omega
     have hX2 : ¬ (k : Int) < k := by omega
     go_wp2
     exact ⟨⟨j + 1, _, by omega, by go_num, rfl⟩, by simp [intOf]; omega⟩
  ·obtain rfl : j = n1 := by omega
   have hX : ¬ (j : Int) < j := by omega
   by_cases h30 : (30 : Int) < j
   ·go_wp2
    go_ret
    exact ⟨⟨_, rfl, .inl rfl⟩, rfl⟩
   ·go_wp2
    go_ret
    exact ⟨⟨_, rfl, .inr (by have := HN1.out; omega)⟩, rfl⟩
theorem heavy15_any (w : World) (S : BS) (A : Option Addr) (c : Nat) (rs : List Rs) (h : Sl ERs w S (.slice A rs.length c) rs) :
  Calls Tryz.prog 6 #[.slice A rs.length c] w (SomeB w) :=
 (heavy15_len w S A c rs h).mono fun e w' ⟨⟨b, h1, _⟩, h2⟩ => ⟨⟨b, h1⟩, h2⟩
theorem ers_two {w : World} {S : BS} {r q : Rs} {A A2 : Option Addr} {c c2 : Nat} {t : TypeId} {f : Nat × Nat} (h1 : Sl ETok w S (.slice A r.v.length c) r.v) (h2 : Sl ETok w S (.slice A2 q.v.length c2) q.v) :
  Sl ERs (w.alloc (.cells #[.int .i64 r.n, .bool r.there, .bool r.raw, .slice A r.v.length c, .int .i64 q.n, .bool q.there, .bool q.raw, .slice A2 q.v.length c2] t f)) (fun k => S k ∨ k = w.heap.size) (.slice (some ⟨w.heap.size, 0, none⟩) 2 2) [r, q] := by
 have hE : Ext w (w.alloc (.cells #[.int .i64 r.n, .bool r.there, .bool r.raw, .slice A r.v.length c, .int .i64 q.n, .bool q.there, .bool q.raw, .slice A2 q.v.length c2] t f)) := (Keep.refl _ _).alloc _
 refine ⟨[.int .i64 r.n, .bool r.there, .bool r.raw, .slice A r.v.length c, .int .i64 q.n, .bool q.there, .bool q.raw, .slice A2 q.v.length c2], (RowS.new (w := w) (sz := 4) (n := 2) (cs := [_, _, _, _, _, _, _, _]) rfl (by simp [maxLen]) f).more fun k _ e => .inr e, ?_⟩
 exact ⟨[.int .i64 r.n, .bool r.there, .bool r.raw, .slice A r.v.length c], _, rfl, ⟨_, rfl, (h1.ext ETok.ok hE).more ETok.ok fun _ _ h => .inl h⟩, [.int .i64 q.n, .bool q.there, .bool q.raw, .slice A2 q.v.length c2], _, rfl, ⟨_, rfl, (h2.ext ETok.ok hE).more ETok.ok fun _ _ h => .inl h⟩, rfl⟩
theorem ShVal.parts {w : World} {S : BS} {u : Value} {s : Sh} (h : ShVal w S u s) : ∃ A4 c4 A5 c5, u = .agg #[.int .i64 s.n, .bool s.there, U8 s.v.kind, .int .i64 s.v.n, .string s.v.s, .slice A4 s.v.l.length c4, .slice A5 s.v.o.length c5] ∧ VAt w (fun q => S q ∧ q < w.heap.size) (.agg #[U8 s.v.kind, .int .i64 s.v.n, .string s.v.s, .slice A4 s.v.l.length c4, .slice A5 s.v.o.length c5]) s.v := by
 obtain ⟨a0, a1, a2, a3, a4, rfl, hv⟩ := h
 have hv := hv.more (S' := fun q => S q ∧ q < w.heap.size) fun q h1 h2 => ⟨h2, h1⟩
 obtain ⟨lv, ov, e1, hl, ho⟩ := hv
 simp only [Value.agg.injEq, Array.mk.injEq, List.cons.injEq, and_true] at e1
 obtain ⟨rfl, rfl, rfl, rfl, rfl⟩ := e1
 obtain ⟨A4, c4, rfl, _⟩ := hl.shape
 obtain ⟨A5, c5, rfl, _⟩ := ho.shape
 exact ⟨A4, c4, A5, c5, rfl, _, _, rfl, hl, ho⟩
theorem blk4s {w : World} {g : Nat} {T : TypeId} {a0 a1 a2 a3 : Value} (h : Blk w g T #[a0, a1, a2, a3]) : w.cell? ⟨g, 0, none⟩ = some a0 ∧ w.cell? ⟨g, 1, none⟩ = some a1 ∧ w.cell? ⟨g, 2, none⟩ = some a2 ∧ w.cell? ⟨g, 3, none⟩ = some a3 := ⟨h.cell 0, h.cell 1, h.cell 2, h.cell 3⟩
set_option maxRecDepth 100000 in
theorem refuses_walk (r bad : Rs) (n : Int) (hn : (Lit.int .u8 n).wf = true) (hr : RsF r) (hb : RsF bad) (w : World) (hva : ValAny w) (S : BS) (A1 : Option Addr) (c1 : Nat) (h1 : Sl ETok w S (.slice A1 r.v.length c1) r.v) (A2 : Option Addr) (c2 : Nat) (h2 : Sl ETok w S (.slice A2 bad.v.length c2) bad.v) :
  Calls Tryz.prog 3 #[.agg #[.int .i64 r.n, .bool r.there, .bool r.raw, .slice A1 r.v.length c1], .agg #[.int .i64 bad.n, .bool bad.there, .bool bad.raw, .slice A2 bad.v.length c2], .int .u8 n] w fun e w' => e = .returned (.bool true) ∧ Ext w w' := by
 have hpe := eql_pdsk
 obtain ⟨i0, hmax, hi0⟩ := run_max0 r.n hr.1
 have HR := hid hr
 have HB := hid hb
 have HVA := hid hva
 have HS1 := hid h1
 have HS2 := hid h2
 have hn0 : 0 ≤ n ∧ n ≤ 255 := by simp [Lit.wf, IntKind.min, IntKind.max, IntKind.signed, IntKind.bits] at hn; omega
 clear hr hb hva h1 h2 hn
 obtain ⟨W0, hW0⟩ : ∃ W0, (w.alloc (.cells #[.int .i64 r.n, .bool r.there, .bool r.raw, .slice A1 r.v.length c1] TREC15)).alloc (.cells #[.int .i64 bad.n, .bool bad.there, .bool bad.raw, .slice A2 bad.v.length c2] TREC15) = W0 := ⟨_, rfl⟩
 have hE0 : Ext w W0 := by rw [← hW0]; exact ((Keep.refl _ _).alloc _).alloc _
 have hb0 : Blk W0 w.heap.size TREC15 #[.int .i64 r.n, .bool r.there, .bool r.raw, .slice A1 r.v.length c1] := by rw [← hW0]; exact (Blk.new _ _ _).alloc _
 have hb1 : Blk W0 (w.heap.size + 1) TREC15 #[.int .i64 bad.n, .bool bad.there, .bool bad.raw, .slice A2 bad.v.length c2] := by
  have := Blk.new (w.alloc (.cells #[.int .i64 r.n, .bool r.there, .bool r.raw, .slice A1 r.v.length c1] TREC15)) TREC15 #[.int .i64 bad.n, .bool bad.there, .bool bad.raw, .slice A2 bad.v.length c2]
  rw [World.size_alloc] at this
  rw [← hW0]; exact this
 have hz0 : W0.heap.size = w.heap.size + 2 := by rw [← hW0]; simp
 obtain ⟨W1, hW1⟩ : ∃ W1, W0.alloc (.cells #[.int .i64 r.n, .bool r.there, .bool r.raw, .slice A1 r.v.length c1, .int .i64 bad.n, .bool bad.there, .bool bad.raw, .slice A2 bad.v.length c2] TREC15) = W1 := ⟨_, rfl⟩
 have HROW := hid (show Sl ERs W1 _ (.slice (some ⟨W0.heap.size, 0, none⟩) 2 2) [r, bad] from by
  rw [← hW1]; exact ers_two (HS1.out.ext ETok.ok hE0) (HS2.out.ext ETok.ok hE0))
 have hE1 : Ext W0 W1 := by rw [← hW1]; exact (Keep.refl _ _).alloc _
 rw [hz0] at HROW
 have HE1 := hid (hE0.ext hE1)
 have HB0 := hid (hb0.keep hE1 id)
 have HB1 := hid (hb1.keep hE1 id)
 have HW1 := hid (hW0 ▸ hW1)
 clear hW0 hW1 hE0 hb0 hb1 hz0 hE1
 go_enter Tryz.func3, Tryz.ntmps3
 go_wp2_with fail
 change Calls _ _ _ (((w.alloc (.cells #[.int .i64 r.n, .bool r.there, .bool r.raw, .slice A1 r.v.length c1] TREC15)).alloc (.cells #[.int .i64 bad.n, .bool bad.there, .bool bad.raw, .slice A2 bad.v.length c2] TREC15)).alloc (.cells #[.int .i64 r.n, .bool r.there, .bool r.raw, .slice A1 r.v.length c1, .int .i64 bad.n, .bool bad.there, .bool bad.raw, .slice A2 bad.v.length c2] TREC15)) _
 rw [HW1.out]
 refine (heavy15_any W1 _ _ _ [r, bad] HROW.out).mono ?_
 rintro e w1 ⟨⟨b, rfl⟩, rfl⟩
 clear HROW HW1
 cases b with
 | true =>
  go_wp2_with fail
  refine (known15_ok w HVA.out w1 HE1.out).mono ?_
  rintro e w2 ⟨rfl, hE⟩
  have HE2 := hid (HE1.out.ext hE)
  clear hE
  go_wp2
  go_ret
  exact ⟨rfl, HE2.out⟩
 | false =>
  go_wp2_with fail
  refine (known15_ok w HVA.out w1 HE1.out).mono ?_
  rintro e w2 ⟨rfl, hE⟩
  have HE2 := hid (HE1.out.ext hE)
  replace HB0 := hid (HB0.out.keep hE id)
  replace HB1 := hid (HB1.out.keep hE id)
  clear hE
  go_wp2_with fail
  refine (disk_new_w w w2 524288 (by decide) HE2.out).mono ?_
  rintro e w3 ⟨d, B, rfl, hD, hlow, hE3⟩
  have HD := hid (Dk.new (N := fun q => q = w.heap.size ∨ q = w.heap.size + 1) hD hlow hE3 (fun k hn => by have := HB1.out.lt; omega))
  replace HB0 := hid (HB0.out.keep hE3 id)
  replace HB1 := hid (HB1.out.keep hE3 id)
  obtain ⟨x0, x1, x2, x3⟩ := blk4s HB0.out
  have f0 := HB0.out.frozen 0
  have f2 := HB0.out.frozen 2
  obtain ⟨K, hK⟩ : ∃ K, i0 % 5001 = K := ⟨_, rfl⟩
  have hKl : K ≤ 5000 := by omega
  have hmod : (i0 : Int) % 5001 = (K : Int) := by rw [← hK]; rfl
  clear hK hD hlow hE3 HE1 HE2
  go_wp2_with fail
  obtain ⟨W4, hW4⟩ : ∃ W4, (w3.setCell ⟨w.heap.size, 2, none⟩ (.bool false)).setCell ⟨w.heap.size, 0, none⟩ (.int .i64 (K : Int)) = W4 := ⟨_, rfl⟩
  have hk4 : Keep (· = w.heap.size) w3 W4 := by rw [← hW4]; exact ((Keep.refl _ _).set1 2 _).set1 0 _
  replace HB0 := hid (show Blk W4 w.heap.size TREC15 #[.int .i64 (K : Int), .bool r.there, .bool false, .slice A1 r.v.length c1] from by
   rw [← hW4]
   have := (HB0.out.set_ 2 (.bool false)).set_ 0 (.int .i64 (K : Int))
   simpa using this)
  replace HB1 := hid (HB1.out.keep hk4 (by omega))
  replace HD := hid (HD.out.set (hk4.mono fun q _ e => .inl e))
  rw [hW4]
  have hz4 : w.heap.size + 1 < W4.heap.size := HB1.out.lt
  clear hW4 hk4 hmod hmax x0 x1 x2 x3 f0 f2
  refine (shot_ok ⟨(K : Int), r.there, false, r.v⟩ rfl W4 S A1 c1 (HS1.out.ext ETok.ok HD.out.ext)).mono ?_
  rintro e w5 ⟨u, s, rfl, hu, hof, hE5⟩
  obtain ⟨hok, hwi, hsl⟩ := sh_good hof (show (0 : Int) ≤ (K : Int) by omega) (show (K : Int) ≤ 5000 by omega) HR.out.2
  obtain ⟨A4, c4, A5, c5, rfl, hva⟩ := hu.parts
  obtain ⟨W6, hW6⟩ : ∃ W6, w5.alloc (.cells #[.int .i64 s.n, .bool s.there, U8 s.v.kind, .int .i64 s.v.n, .string s.v.s, .slice A4 s.v.l.length c4, .slice A5 s.v.o.length c5] TSHOT) = W6 := ⟨_, rfl⟩
  have hE6 : Ext w5 W6 := by rw [← hW6]; exact (Keep.refl _ _).alloc _
  have HB8 := hid (show Blk W6 w5.heap.size TSHOT #[.int .i64 s.n, .bool s.there, U8 s.v.kind, .int .i64 s.v.n, .string s.v.s, .slice A4 s.v.l.length c4, .slice A5 s.v.o.length c5] from by rw [← hW6]; exact Blk.new _ _ _)
  obtain ⟨z0, z1, z2, z3, z4, z5, z6⟩ := blk7s HB8.out
  have HW6 := hid hW6
  have hz56 := HB8.out.lt
  have hz45 := hE5.size
  replace HB0 := hid ((HB0.out.keep hE5 id).keep hE6 id)
  replace HB1 := hid ((HB1.out.keep hE5 id).keep hE6 id)
  replace HD := hid ((HD.out.more (hE5.ext hE6)).less (N' := fun q => q = w.heap.size ∨ q = w.heap.size + 1 ∨ (W4.heap.size ≤ q ∧ q < W6.heap.size)) fun k hk => by omega)
  have HV8 := hid (hva.ext hE6)
  have HOK := hid hok
  have HWI := hid hwi
  have HSL := hid hsl
  have HOF := hid hof
  clear hu hva hE5 hE6 hW6 hok hwi hsl hof
  go_wp2_with fail
  change Calls _ _ _ (w5.alloc (.cells #[.int .i64 s.n, .bool s.there, U8 s.v.kind, .int .i64 s.v.n, .string s.v.s, .slice A4 s.v.l.length c4, .slice A5 s.v.o.length c5] TSHOT)) _
  rw [HW6.out]
  refine (save_ok w HVA.out W6 B d [] _ ⟨#[115]⟩ s HWI.out HD.out.ext HD.out.is (by decide) _ _ ⟨_, _, _, _, _, rfl, HV8.out⟩).mono ?_
  rintro e w7 ⟨he, hd, hk⟩
  have hsv : saveR [] ⟨524288, false, -1⟩ ⟨#[115]⟩ s = (0, oneF ⟨#[115]⟩ [shB s], ⟨524288, false, -1⟩) := save_one (nm := ⟨#[115]⟩) (ls := []) (R := 524288) (sh := s) (by decide) (by decide) HOK.out (by have := HSL.out; simp [rowsL]; omega)
  rw [hsv] at he hd
  obtain rfl : e = .returned (.int .u16 0) := he
  replace HB0 := hid (HB0.out.keep hk fun hb => HD.out.no _ hb (.inl rfl))
  replace HB1 := hid (HB1.out.keep hk fun hb => HD.out.no _ hb (.inr (.inl rfl)))
  replace HB8 := hid (HB8.out.keep hk fun hb => HD.out.no _ hb (.inr (.inr ⟨by omega, by omega⟩)))
  replace HV8 := hid (HV8.out.keep hk fun q hq hb => HD.out.no _ hb (.inr (.inr ⟨by omega, by omega⟩)))
  replace HD := hid (HD.out.grow hk hd)
  clear hd hk hsv z0 z1 z2 z3 z4 z5 z6 HW6
  generalize moreB B W6 w7 = B7 at *
  obtain ⟨x0, x1, x2, x3⟩ := blk4s HB1.out
  have f0 := HB1.out.frozen 0
  have f2 := HB1.out.frozen 2
  have hcx : IntKind.i64.wrap n = n := by rw [IntKind.wrap_i64]; omega
  go_wp2_with fail
  obtain ⟨X1, hX⟩ : ∃ X1, (w7.setCell ⟨w.heap.size + 1, 2, none⟩ (.bool false)).setCell ⟨w.heap.size + 1, 0, none⟩ (.int .i64 (5001 + n)) = X1 := ⟨_, rfl⟩
  have hk4 : Keep (· = w.heap.size + 1) w7 X1 := by rw [← hX]; exact ((Keep.refl _ _).set1 2 _).set1 0 _
  replace HB1 := hid (show Blk X1 (w.heap.size + 1) TREC15 #[.int .i64 (5001 + n), .bool bad.there, .bool false, .slice A2 bad.v.length c2] from by
   rw [← hX]
   have := (HB1.out.set_ 2 (.bool false)).set_ 0 (.int .i64 (5001 + n))
   simpa using this)
  replace HB0 := hid (HB0.out.keep hk4 (by omega))
  replace HB8 := hid (HB8.out.keep hk4 (by omega))
  replace HV8 := hid (HV8.out.keep hk4 fun q hq e => by omega)
  replace HD := hid (HD.out.set (hk4.mono fun q _ e => .inr (.inl e)))
  rw [hX]
  clear hX hk4 x0 x1 x2 x3 f0 f2
  refine (shot_ok ⟨5001 + n, bad.there, false, bad.v⟩ rfl X1 S A2 c2 (HS2.out.ext ETok.ok HD.out.ext)).mono ?_
  rintro e y1 ⟨u, q1, rfl, hu, hof, hE5⟩
  obtain ⟨A6, c6, A7, c7, rfl, hva⟩ := hu.parts
  replace HB0 := hid (HB0.out.keep hE5 id)
  replace HB1 := hid (HB1.out.keep hE5 id)
  replace HB8 := hid (HB8.out.keep hE5 id)
  replace HV8 := hid (HV8.out.ext hE5)
  replace HD := hid (show Dk w (fun q => q = w.heap.size ∨ q = w.heap.size + 1 ∨ (W4.heap.size ≤ q ∧ q < W6.heap.size)) y1 _ d _ _ from (HD.out.more hE5).less fun k hk => .inl hk)
  have HX := hid (And.intro (sh_wide hof) hva)
  have HSE := hid (show saveE ⟨#[115]⟩ q1 = 150 from saveE_bad (by have := hof.1; simp only at this; omega))
  clear hu hva hE5 hof
  go_wp2_with fail
  refine (save_ok w HVA.out y1 _ d _ _ ⟨#[115]⟩ q1 HX.out.1 HD.out.ext HD.out.is (by decide) _ _ ⟨_, _, _, _, _, rfl, HX.out.2⟩).mono ?_
  rintro e v1 ⟨he, hd, hk⟩
  rw [saveR_bad HSE.out] at he hd
  obtain rfl : e = .returned (.int .u16 150) := he
  replace HB0 := hid (HB0.out.keep hk fun hb => HD.out.no _ hb (.inl rfl))
  replace HB1 := hid (HB1.out.keep hk fun hb => HD.out.no _ hb (.inr (.inl rfl)))
  replace HB8 := hid (HB8.out.keep hk fun hb => HD.out.no _ hb (.inr (.inr ⟨by omega, by omega⟩)))
  replace HV8 := hid (HV8.out.keep hk fun q hq hb => HD.out.no _ hb (.inr (.inr ⟨by omega, by omega⟩)))
  replace HD := hid (HD.out.grow hk hd)
  clear hd hk HX HSE
  generalize moreB B7 y1 v1 = B1 at *
  obtain ⟨x0, x1, x2, x3⟩ := blk4s HB1.out
  have f0 := HB1.out.frozen 0
  have f2 := HB1.out.frozen 2
  have hcx : IntKind.i64.wrap n = n := by rw [IntKind.wrap_i64]; omega
  go_wp2_with fail
  obtain ⟨X2, hX⟩ : ∃ X2, v1.setCell ⟨w.heap.size + 1, 0, none⟩ (.int .i64 (-1 - n)) = X2 := ⟨_, rfl⟩
  have hk4 : Keep (· = w.heap.size + 1) v1 X2 := by rw [← hX]; exact (Keep.refl _ _).set1 0 _
  replace HB1 := hid (show Blk X2 (w.heap.size + 1) TREC15 #[.int .i64 (-1 - n), .bool bad.there, .bool false, .slice A2 bad.v.length c2] from by
   rw [← hX]
   have := HB1.out.set_ 0 (.int .i64 (-1 - n))
   simpa using this)
  replace HB0 := hid (HB0.out.keep hk4 (by omega))
  replace HB8 := hid (HB8.out.keep hk4 (by omega))
  replace HV8 := hid (HV8.out.keep hk4 fun q hq e => by omega)
  replace HD := hid (HD.out.set (hk4.mono fun q _ e => .inr (.inl e)))
  rw [hX]
  clear hX hk4 x0 x1 x2 x3 f0 f2
  refine (shot_ok ⟨-1 - n, bad.there, false, bad.v⟩ rfl X2 S A2 c2 (HS2.out.ext ETok.ok HD.out.ext)).mono ?_
  rintro e y2 ⟨u, q2, rfl, hu, hof, hE5⟩
  obtain ⟨A6, c6, A7, c7, rfl, hva⟩ := hu.parts
  replace HB0 := hid (HB0.out.keep hE5 id)
  replace HB1 := hid (HB1.out.keep hE5 id)
  replace HB8 := hid (HB8.out.keep hE5 id)
  replace HV8 := hid (HV8.out.ext hE5)
  replace HD := hid (show Dk w (fun q => q = w.heap.size ∨ q = w.heap.size + 1 ∨ (W4.heap.size ≤ q ∧ q < W6.heap.size)) y2 _ d _ _ from (HD.out.more hE5).less fun k hk => .inl hk)
  have HX := hid (And.intro (sh_wide hof) hva)
  have HSE := hid (show saveE ⟨#[115]⟩ q2 = 150 from saveE_bad (by have := hof.1; simp only at this; omega))
  clear hu hva hE5 hof
  go_wp2_with fail
  refine (save_ok w HVA.out y2 _ d _ _ ⟨#[115]⟩ q2 HX.out.1 HD.out.ext HD.out.is (by decide) _ _ ⟨_, _, _, _, _, rfl, HX.out.2⟩).mono ?_
  rintro e v2 ⟨he, hd, hk⟩
  rw [saveR_bad HSE.out] at he hd
  obtain rfl : e = .returned (.int .u16 150) := he
  replace HB0 := hid (HB0.out.keep hk fun hb => HD.out.no _ hb (.inl rfl))
  replace HB1 := hid (HB1.out.keep hk fun hb => HD.out.no _ hb (.inr (.inl rfl)))
  replace HB8 := hid (HB8.out.keep hk fun hb => HD.out.no _ hb (.inr (.inr ⟨by omega, by omega⟩)))
  replace HV8 := hid (HV8.out.keep hk fun q hq hb => HD.out.no _ hb (.inr (.inr ⟨by omega, by omega⟩)))
  replace HD := hid (HD.out.grow hk hd)
  clear hd hk HX HSE
  generalize moreB B1 y2 v2 = B2 at *
  go_wp2_with fail
  refine (save_ok w HVA.out v2 _ d _ _ ⟨#[115]⟩ ⟨0, false, vI 1⟩ (built_good (vI_sv 1) (vI_size 1)).1 HD.out.ext HD.out.is (by decide) (fun _ => False) _ ⟨_, _, _, _, _, rfl, vI_at 1⟩).mono ?_
  rintro e w9 ⟨he, hd, hk⟩
  rw [saveR_bad (show saveE ⟨#[115]⟩ ⟨0, false, vI 1⟩ = 150 from saveE_not rfl (by rfl))] at he hd
  obtain rfl : e = .returned (.int .u16 150) := he
  replace HB0 := hid (HB0.out.keep hk fun hb => HD.out.no _ hb (.inl rfl))
  replace HB8 := hid (HB8.out.keep hk fun hb => HD.out.no _ hb (.inr (.inr ⟨by omega, by omega⟩)))
  replace HV8 := hid (HV8.out.keep hk fun q hq hb => HD.out.no _ hb (.inr (.inr ⟨by omega, by omega⟩)))
  replace HD := hid (HD.out.grow hk hd)
  clear hd hk HB1
  generalize moreB B2 v2 w9 = B9 at *
  go_wp2_with fail
  refine (disk_full w9 B9 d _ _ true HD.out.is).mono ?_
  rintro e w10 ⟨rfl, hd, hk⟩
  replace HB0 := hid (HB0.out.keep hk fun hb => HD.out.no _ hb (.inl rfl))
  replace HB8 := hid (HB8.out.keep hk fun hb => HD.out.no _ hb (.inr (.inr ⟨by omega, by omega⟩)))
  replace HV8 := hid (HV8.out.keep hk fun q hq hb => HD.out.no _ hb (.inr (.inr ⟨by omega, by omega⟩)))
  replace HD := hid (show Dk w (fun q => q = w.heap.size ∨ q = w.heap.size + 1 ∨ (W4.heap.size ≤ q ∧ q < W6.heap.size)) w10 B9 d (oneF ⟨#[115]⟩ [shB s]) ⟨524288, true, -1⟩ from HD.out.step hk hd)
  obtain ⟨z0, z1, z2, z3, z4, z5, z6⟩ := blk7s HB8.out
  clear hd hk
  go_wp2_with fail
  refine (save_ok w HVA.out w10 _ d _ _ ⟨#[115]⟩ s HWI.out HD.out.ext HD.out.is (by decide) _ _ ⟨_, _, _, _, _, rfl, HV8.out⟩).mono ?_
  rintro e w11 ⟨he, hd, hk⟩
  rw [save_full (HOK.out.code (nm := ⟨#[115]⟩) (by decide) (by decide))] at he hd
  obtain rfl : e = .returned (.int .u16 130) := he
  replace HB0 := hid (HB0.out.keep hk fun hb => HD.out.no _ hb (.inl rfl))
  replace HB8 := hid (HB8.out.keep hk fun hb => HD.out.no _ hb (.inr (.inr ⟨by omega, by omega⟩)))
  replace HD := hid (HD.out.grow hk hd)
  clear hd hk HV8 z0 z1 z2 z3 z4 z5 z6
  generalize moreB B9 w10 w11 = B11 at *
  go_wp2_with fail
  have hrd : (readR (oneF ⟨#[115]⟩ [shB s]) (byt (fileT ⟨#[115]⟩))).2 = rowsL [shB s] := read_one _ _
  have hxl : ∀ x ∈ [shB s], x.length ≤ 60000 := fun x hx => by rw [List.mem_singleton.1 hx]; have := HSL.out; omega
  refine (load_some w HVA.out w11 HD.out.ext B11 d _ _ ⟨#[115]⟩ HD.out.is (by decide) [] s HOK.out HWI.out (by rw [hrd, lensL_rows]; have := HSL.out; simp [lensL]; omega) (by rw [hrd, scan_rows _ hxl]; rfl)).mono ?_
  rintro e w12 ⟨u, rfl, hu, hE⟩
  obtain ⟨A6, c6, A7, c7, rfl, _⟩ := hu.parts
  obtain ⟨W12, hW12⟩ : ∃ W12, w12.alloc (.cells #[.int .i64 s.n, .bool s.there, U8 s.v.kind, .int .i64 s.v.n, .string s.v.s, .slice A6 s.v.l.length c6, .slice A7 s.v.o.length c7] TSHOT) = W12 := ⟨_, rfl⟩
  have hE6 : Ext w12 W12 := by rw [← hW12]; exact (Keep.refl _ _).alloc _
  have HB14 := hid (show Blk W12 w12.heap.size TSHOT #[.int .i64 s.n, .bool s.there, U8 s.v.kind, .int .i64 s.v.n, .string s.v.s, .slice A6 s.v.l.length c6, .slice A7 s.v.o.length c7] from by rw [← hW12]; exact Blk.new _ _ _)
  have x3 : ∀ o, (w12.alloc o).cell? ⟨w.heap.size, 3, none⟩ = some (.slice A1 r.v.length c1) := fun o => ((HB0.out.keep hE id).alloc o).cell 3
  replace HB8 := hid ((HB8.out.keep hE id).keep hE6 id)
  have HE12 := hid ((HD.out.ext.ext hE).ext hE6)
  have HW12 := hid hW12
  clear hrd hxl hu hE hE6 hW12 HD HSL HOK HWI
  go_wp2_with fail
  change Calls _ _ _ (w12.alloc (.cells #[.int .i64 s.n, .bool s.there, U8 s.v.kind, .int .i64 s.v.n, .string s.v.s, .slice A6 s.v.l.length c6, .slice A7 s.v.o.length c7] TSHOT)) _
  rw [HW12.out]
  refine (build_okN r.v _ S W12 (HS1.out.ext ETok.ok HE12.out)).mono ?_
  rintro e w13 ⟨u, y, rfl, hy1, hy2, hy3, hy4, hy, hE⟩
  obtain ⟨lv, ov, rfl, hl1, ho1⟩ := hy
  obtain ⟨A8, c8, rfl, _⟩ := hl1.shape
  obtain ⟨A9, c9, rfl, _⟩ := ho1.shape
  have hkd : r.there = true → s.v.kind = y.kind := fun h => by rw [hy4]; exact (HOF.out.2.2.2 h).2.2.2
  have hth : s.there = r.there := HOF.out.2.1
  have hb14 := HB14.out.keep hE id
  have hb8 := HB8.out.keep hE id
  rw [hth] at hb8 hb14
  have HEND := hid (fun o => (HE12.out.ext hE).ext ((Keep.refl (fun _ => False) w13).alloc o))
  have z0 : ∀ o, (w13.alloc o).cell? ⟨w5.heap.size, 0, none⟩ = some (.int .i64 s.n) := fun o => (hb8.alloc o).cell 0
  have z1 : ∀ o, (w13.alloc o).cell? ⟨w5.heap.size, 1, none⟩ = some (.bool r.there) := fun o => (hb8.alloc o).cell 1
  have u0 : ∀ o, (w13.alloc o).cell? ⟨w12.heap.size, 0, none⟩ = some (.int .i64 s.n) := fun o => (hb14.alloc o).cell 0
  have u1 : ∀ o, (w13.alloc o).cell? ⟨w12.heap.size, 1, none⟩ = some (.bool r.there) := fun o => (hb14.alloc o).cell 1
  have u2 : ∀ o, (w13.alloc o).cell? ⟨w12.heap.size, 2, none⟩ = some (U8 s.v.kind) := fun o => (hb14.alloc o).cell 2
  clear hy1 hy2 hy3 hy4 hE hl1 ho1 hb14 hb8 x3 HB0 HB8 HB14 HE12 HW12 hth
  obtain ⟨th, hth2⟩ : ∃ th, r.there = th := ⟨_, rfl⟩
  rw [hth2] at z1 u1 hkd
  cases th with
  | true =>
   rw [hkd rfl] at u2
   clear hth2 hkd
   go_wp2
   go_ret
   exact ⟨by first | rfl | simp, HEND.out _⟩
  | false =>
   clear hth2 hkd
   go_wp2
   go_ret
   exact ⟨by first | rfl | simp, HEND.out _⟩
end Go.Proofs.YtihaliffcobacaaGreatDoor
