/- Do6C, TurnB: laid together. -/
import Derived.Test.YtggkidnlmaindaaDoorPxB17
import Derived.Test.YtggkidnlmaindaaDoorPxB13
set_option linter.unusedSimpArgs false
set_option linter.unusedVariables false
set_option maxHeartbeats 25600000
set_option maxRecDepth 20000
namespace Go.Proofs.YtggkidnlmaindaaDoor
open Go.RowKit
theorem rkinds_put (w : World) (S S2 : BS) (u t : Value) (x : V) (c : Cp) (hx : VAt w S u x) (hc : CAt w S2 t c) (hk : c.kind = 2 ∨ (c.kind = 3 ∧ fieldIs x.o c.key = true)) (hxk : x.kind = 5) :
  Calls Tryd.prog 86 #[u, t] w fun e w' => e = .returned (.int .i64 0) ∧ Ext w w' := by
 obtain ⟨pv, lv, ov, rfl, h1, h2, h3⟩ := hc
 obtain ⟨Ap, cp, rfl, _⟩ := h1.shape
 obtain ⟨Al, cl, rfl, _⟩ := h2.shape
 obtain ⟨Ao, co, rfl, _⟩ := h3.shape
 obtain ⟨lx, ox, rfl, k1, k2⟩ := hx
 obtain ⟨Bl, dl, rfl, _⟩ := k1.shape
 obtain ⟨Bo, do_, rfl, _⟩ := k2.shape
 obtain ⟨W, hW⟩ : ∃ W, (w.alloc (.cells (vC x Bl dl Bo do_) TVAL)).alloc (.cells (cC c Ap cp Al cl Ao co) TCMP) = W := ⟨_, rfl⟩
 have hE : Ext w W := by rw [← hW]; exact ((Keep.refl _ _).alloc _).alloc _
 have hb : Blk W w.heap.size TVAL (vC x Bl dl Bo do_) := by rw [← hW]; exact (Blk.new _ _ _).alloc _
 have hcb : Blk W (w.heap.size + 1) TCMP (cC c Ap cp Al cl Ao co) := by
  have := Blk.new (w.alloc (.cells (vC x Bl dl Bo do_) TVAL)) TCMP (cC c Ap cp Al cl Ao co)
  rw [World.size_alloc, hW] at this
  exact this
 have HV := hid (show VAt W S (.agg (vC x Bl dl Bo do_)) x from ⟨_, _, rfl, k1.ext EVal.ok hE, k2.ext EField.ok hE⟩)
 have HE := hid hE
 have HCB := hid hcb
 have HB := hid hb
 obtain ⟨y0, y1, y2, y3, y4⟩ := blk5 hb
 obtain ⟨x0, x1, x2, x3, x4, x5, x6, x7, x8, x9, x10, x11⟩ := sq12 hcb
 clear h1 h2 h3 k1 k2 hE hb hcb
 have HXK := hid hxk
 clear hxk
 have hcall := rfield_val W S _ x c.key HV.out
 obtain ⟨fl, hfl⟩ : ∃ fl, fieldL x.o c.key = fl := ⟨_, rfl⟩
 obtain ⟨fi, hfi⟩ : ∃ fi, fieldIs x.o c.key = fi := ⟨_, rfl⟩
 rw [hfl, hfi] at hcall
 rw [hfi] at hk
 clear hfl hfi
 rcases hk with hk | ⟨hk, rfl⟩
 all_goals
  rw [hk] at x0
  go_enter Tryd.func86, Tryd.ntmps86
  go_wp2_with fail
  refine hcall.mono ?_
  rintro e W2 ⟨rfl, hE2⟩
  have hcb := HCB.out.keep hE2 id
  have hb := HB.out.keep hE2 id
  have HE2 := hid (HE.out.ext hE2)
  clear hE2 hW hcall HV HE HCB HB x0 x1 x2 x3 x4 x5 x6 x7 x8 x9 x10 x11 y0 y1 y2 y3 y4
  obtain ⟨y0, y1, y2, y3, y4⟩ := blk5 hb
  rw [HXK.out] at y0
  have x0 := hcb.cell 0
  have x2 := hcb.cell 2
  simp at x0 x2
  rw [hk] at x0
  clear hb hcb hk
  go_wp2
  go_ret
  exact ⟨rfl, HE2.out⟩
def KindsOk (x : V) (c : Cp) (w0 : World) : Prop := ∀ (w : World) (S S2 : BS) (u t : Value), Ext w0 w → VAt w S u x → CAt w S2 t c → Calls Tryd.prog 86 #[u, t] w fun e w' => e = .returned (.int .i64 0) ∧ Ext w w'
theorem rcheck6_ok (w0 : World) (hva : ValAny w0) (w : World) (hw : Ext w0 w) (S S2 : BS) (u t : Value) (v x : V) (c : Cp) (hv : VAt w S u v) (hc : CAt w S2 t c) (hs : Snd6 c) (hg : getV v c.path = some x) (hsz : v.size ≤ 1000000) (hk : KindsOk x c w0) :
  Calls Tryd.prog 70 #[u, t] w fun e w' => e = .returned (.int .i64 0) ∧ Ext w w' := by
 obtain ⟨pv, lv, ov, rfl, h1, h2, h3⟩ := hc
 obtain ⟨Ap, cp, rfl, _⟩ := h1.shape
 obtain ⟨Al, cl, rfl, _⟩ := h2.shape
 obtain ⟨Ao, co, rfl, _⟩ := h3.shape
 obtain ⟨lx, ox, rfl, k1, k2⟩ := hv
 obtain ⟨Bl, dl, rfl, _⟩ := k1.shape
 obtain ⟨Bo, do_, rfl, _⟩ := k2.shape
 obtain ⟨W, hW⟩ : ∃ W, (w.alloc (.cells (vC v Bl dl Bo do_) TVAL)).alloc (.cells (cC c Ap cp Al cl Ao co) TCMP) = W := ⟨_, rfl⟩
 have hE : Ext w W := by rw [← hW]; exact ((Keep.refl _ _).alloc _).alloc _
 have hb : Blk W w.heap.size TVAL (vC v Bl dl Bo do_) := by rw [← hW]; exact (Blk.new _ _ _).alloc _
 have hcb : Blk W (w.heap.size + 1) TCMP (cC c Ap cp Al cl Ao co) := by
  have := Blk.new (w.alloc (.cells (vC v Bl dl Bo do_) TVAL)) TCMP (cC c Ap cp Al cl Ao co)
  rw [World.size_alloc, hW] at this
  exact this
 have HV := hid (show VAt W S (.agg (vC v Bl dl Bo do_)) v from ⟨_, _, rfl, k1.ext EVal.ok hE, k2.ext EField.ok hE⟩)
 have HCC := hid (show CAt W S2 (.agg (cC c Ap cp Al cl Ao co)) c from ⟨_, _, _, rfl, h1.ext ESt.ok hE, h2.ext EVal.ok hE, h3.ext EField.ok hE⟩)
 have HP := hid (h1.ext ESt.ok hE)
 have HE := hid hE
 have HCB := hid hcb
 have HB := hid hb
 have HX := hid (hw.ext hE)
 have HVA := hid hva
 have HS := hid hs
 have HG := hid hg
 have HK := hid hk
 obtain ⟨y0, y1, y2, y3, y4⟩ := blk5 hb
 obtain ⟨x0, x1, x2, x3, x4, x5, x6, x7, x8, x9, x10, x11⟩ := sq12 hcb
 clear h1 h2 h3 k1 k2 hE hb hcb hw hva hs hg hk
 go_enter Tryd.func70, Tryd.ntmps70
 go_wp2_with fail
 refine (rsound6_ok _ HVA.out W HX.out _ _ c HCC.out HS.out).mono ?_
 rintro e W2 ⟨rfl, hE2⟩
 have hcb := HCB.out.keep hE2 id
 have hb := HB.out.keep hE2 id
 have HE2 := hid (HE.out.ext hE2)
 have HX2 := hid (HX.out.ext hE2)
 have HV2 := hid (HV.out.ext hE2)
 have HC2 := hid (HCC.out.ext hE2)
 have HP2 := hid (HP.out.ext ESt.ok hE2)
 have HCB2 := hid hcb
 clear hE2 hW HV HCC HP HE HX HCB HB y0 y1 y2 y3 y4 x0 x1 x2 x3 x4 x5 x6 x7 x8 x9 x10 x11
 obtain ⟨y0, y1, y2, y3, y4⟩ := blk5 hb
 obtain ⟨x0, x1, x2, x3, x4, x5, x6, x7, x8, x9, x10, x11⟩ := sq12 hcb
 clear hb hcb
 go_wp2_with fail
 refine (rget_new W2 _ _ v c.path _ _ HV2.out HP2.out hsz).mono ?_
 intro e W3 hget
 unfold RGetN at hget
 rw [HG.out] at hget
 obtain ⟨⟨ux, rfl, lq, oq, rfl, q1, q2⟩, hE3⟩ := hget
 obtain ⟨Cl, el, rfl, _⟩ := q1.shape
 obtain ⟨Co, eo, rfl, _⟩ := q2.shape
 have hA : Ext W3 (W3.alloc (.cells (vC x Cl el Co eo) TVAL)) := (Keep.refl _ _).alloc _
 have hxb := Blk.new W3 TVAL (vC x Cl el Co eo)
 have HXV := hid (show VAt (W3.alloc (.cells (vC x Cl el Co eo) TVAL)) (fun _ => True) (.agg (vC x Cl el Co eo)) x from ⟨_, _, rfl, (q1.more (S' := fun _ => True) EVal.ok fun _ _ _ => trivial).ext EVal.ok hA, (q2.more (S' := fun _ => True) EField.ok fun _ _ _ => trivial).ext EField.ok hA⟩)
 have HE3 := hid (HE2.out.ext (hE3.ext hA))
 have HX3 := hid (HX2.out.ext (hE3.ext hA))
 have HC3 := hid (HC2.out.ext (hE3.ext hA))
 have hcb := HCB2.out.keep (hE3.ext hA) id
 clear q1 q2 hE3 hA HV2 HC2 HP2 HE2 HX2 y0 y1 y2 y3 y4 x0 x1 x2 x3 x4 x5 x6 x7 x8 x9 x10 x11
 obtain ⟨y0, y1, y2, y3, y4⟩ := blk5 hxb
 obtain ⟨x0, x1, x2, x3, x4, x5, x6, x7, x8, x9, x10, x11⟩ := sq12 hcb
 clear hxb hcb
 go_wp2_with fail
 generalize W3.alloc (.cells (vC x Cl el Co eo) TVAL) = W4 at *
 refine (HK.out W4 _ _ _ _ HX3.out HXV.out HC3.out).mono ?_
 rintro e W5 ⟨rfl, hE5⟩
 go_wp2
 go_ret
 exact ⟨rfl, HE3.out.ext hE5⟩
theorem plain6_ok (s : ByteArray) (w : World) :
  Calls Tryd.prog 84 #[.string s] w fun e w' => e = .returned (.string (textOf (plainL s))) ∧ Ext w w' := by
 go_enter Tryd.func84, Tryd.ntmps84
 go_wp2_with fail
 go_loopw [3, 4] (fun b i wr => ∃ j : Nat, j ≤ 40 ∧ j ≤ s.size ∧ i = .int .i64 j ∧ Own EU8 wr w.heap.size 5 (fun _ => False) b ((s.data.toList.take j).map (· % 128)) ∧ Ext w wr) (fun _ i _ => 40 - (intOf i).toNat)
 case atStart => exact ⟨0, by omega, by omega, rfl, Own.nil _ _ _ _, Keep.refl _ _⟩
 case round =>
  obtain ⟨j, hj, hjs, rfl, hown, hE⟩ := hrel
  obtain ⟨A, c, rfl, hl, hc⟩ := hown.shape
  have hlen : ((s.data.toList.take j).map (· % 128)).length = j := by
   rw [List.length_map, List.length_take]
   have : s.data.toList.length = s.size := Array.length_toList
   omega
  rw [hlen] at hown ⊢
  have HO := hid hown
  have HE := hid hE
  clear hown hE
  have hstop : ¬ (j < s.size ∧ j < 40) → (s.data.toList.take j).map (· % 128) = plainL s := by
   intro h
   unfold plainL
   rcases Nat.lt_or_ge j 40 with h1 | h1
   ·have h2 : s.data.toList.length = s.size := Array.length_toList
    rw [List.take_of_length_le (by omega), List.take_of_length_le (by omega)]
   ·obtain rfl : j = 40 := by omega
    rfl
  by_cases h1 : j < s.size
  ·by_cases h2 : j < 40
   ·have hnext : (s.data.toList.take j).map (· % 128) ++ [s[j] % 128] = (s.data.toList.take (j + 1)).map (· % 128) := by
     have h3 : s.data.toList.length = s.size := Array.length_toList
     rw [List.take_succ_eq_append_getElem (by omega), List.map_append]
     rfl
    have HX := hid hnext
    have hnew := bytes_new (w := wr) (t := 5) (f := (0, 0)) [s[j] % 128] (by simp [maxLen])
    have hu : [s[j] % 128].map U8 = [Value.int .u8 ((s[j].toNat : Int) % 128)] := by
     simp only [List.map_cons, List.map_nil, U8, UInt8.toNat_mod]
     rfl
    rw [hu] at hnew
    have HV := hid hnew
    have HO2 := hid (HO.out.ext EU8.ok ((Keep.refl (fun _ => False) wr).alloc (.cells [Value.int .u8 ((s[j].toNat : Int) % 128)].toArray 5)))
    have HLN := hid hlen
    generalize (s.data.toList.take j).map (· % 128) = tj at *
    clear hnew hu hnext hstop
    have h1X : (j : Int) < s.size := by omega
    have h2X : (j : Int) < 40 := by omega
    go_wp2_with (at_builtin; refine wpList_append_bytes rfl (.tmp 15) (.tmp 20) ty_u8 rfl rfl rfl HO2.out HV.out ?c1 ?c2 ?c3 ?_)
    case c1 => intro g hg h; have := HO.out.lt (show (Value.slice A j c).ownBlock = some g from hg); omega
    case c2 => simp; omega
    case c3 => have := HE.out.size; simp; omega
    intro A' c' w' h3 h4 h5 h6
    have HO3 := hid h3
    have HE3 := hid (HE.out.trans ((Keep.alloc (Keep.refl (fun k => (Value.slice A j c).ownBlock = some k) wr) _).trans h6 fun k _ e => e) fun k hk e => by have := (HO.out.lt (show (Value.slice A j c).ownBlock = some k from e)).1; omega)
    have hl3 : tj.length + [s[j] % 128].length = j + 1 := by have := HLN.out; simp; omega
    clear h3 h4 h6 HO HO2 HV HE hlen
    go_wp2
    go_roundw
    case rel => exact ⟨j + 1, by omega, by omega, by go_num, by rw [← HX.out]; exact HO3.out, HE3.out⟩
    case measure => simp [intOf]; omega
   ·have hl := hstop (by omega)
    have HC := convert_bytesS (HO.out.sl EU8.ok)
    rw [hl] at HC
    have HE2 := hid HE.out
    clear HO HE hstop hlen hl
    go_wp2
    go_ret
    exact ⟨rfl, HE2.out⟩
  ·have hl := hstop (by omega)
   have HC := convert_bytesS (HO.out.sl EU8.ok)
   rw [hl] at HC
   have HE2 := hid HE.out
   clear HO HE hstop hlen hl
   go_wp2
   go_ret
   exact ⟨rfl, HE2.out⟩
abbrev TACT : Nat := 86
structure Ac where
 path : List UInt8
 kind : UInt8
 i : Int
 j : Int
 n : Int
 s : ByteArray
 v : List Tk
abbrev acCells (a : Ac) (pv vv : Value) : Array Value := #[pv, U8 a.kind, .int .i64 a.i, .int .i64 a.j, .int .i64 a.n, .string a.s, vv]
def AAt (w : World) (S : BS) (u : Value) (a : Ac) : Prop := ∃ pv vv, u = .agg (acCells a pv vv) ∧ BytesS w S pv a.path ∧ Sl ETok w S vv a.v
theorem AAt.ext {w w' : World} {S : BS} {u : Value} {a : Ac} (h : AAt w S u a) (he : Ext w w') : AAt w' S u a := by
 obtain ⟨pv, vv, h1, h2, h3⟩ := h; exact ⟨pv, vv, h1, h2.ext EU8.ok he, h3.ext ETok.ok he⟩
def TextOk (n : Nat) (k : UInt8) (i nn : Int) (s : ByteArray) : Prop :=
 (k = 8 ∧ (∃ q : Nat, i = q ∧ q ≤ n) ∧ nn = 0 ∧ ∃ l : List UInt8, l.length ≤ 40 ∧ (∀ c ∈ l, c.toNat < 128) ∧ s = textOf (120 :: l)) ∨ (k = 9 ∧ (∃ q m : Nat, i = q ∧ q < n ∧ nn = m ∧ 1 ≤ m ∧ q + m ≤ n) ∧ s = ⟨#[]⟩)
def Text6Is (n : Nat) (pv : Value) (w : World) (e : Ending) (w' : World) : Prop :=
 ∃ (k : UInt8) (i nn : Int) (s : ByteArray), e = .returned (.agg #[U8 k, pv, .string ⟨#[]⟩, .int .i64 i, .int .i64 0, .int .i64 nn, U8 0, .int .i64 0, .string ⟨#[]⟩, .slice none 0 0, .slice none 0 0, .string s]) ∧ TextOk n k i nn s ∧ Ext w w'
theorem text6_ok (w : World) (S : BS) (pv av : Value) (a : Ac) (n : Nat) (hn : n ≤ 100000) (ha : AAt w S av a) (hwi : (Lit.int .i64 a.i).wf = true) (hwj : (Lit.int .i64 a.j).wf = true) (hpv : ∃ A n c, pv = .slice A n c) :
  Calls Tryd.prog 67 #[.agg #[.int .u8 0, pv, .string ⟨#[]⟩, .int .i64 0, .int .i64 0, .int .i64 0, .int .u8 0, .int .i64 0, .string ⟨#[]⟩, .slice none 0 0, .slice none 0 0, .string ⟨#[]⟩], av, .int .i64 (n : Int)] w (Text6Is n pv w) := by
 obtain ⟨ap, vv, rfl, hap, hvv⟩ := ha
 obtain ⟨Aa, ca, rfl, _⟩ := hap.shape
 obtain ⟨Av, cv, rfl, _⟩ := hvv.shape
 obtain ⟨Ap, np, cp, rfl⟩ := hpv
 clear hap hvv
 obtain ⟨W, hW⟩ : ∃ W, ((w.alloc (.cells #[.int .u8 0, .slice Ap np cp, .string ⟨#[]⟩, .int .i64 0, .int .i64 0, .int .i64 0, .int .u8 0, .int .i64 0, .string ⟨#[]⟩, .slice none 0 0, .slice none 0 0, .string ⟨#[]⟩] TCMP)).alloc (.cells (acCells a (.slice Aa a.path.length ca) (.slice Av a.v.length cv)) TACT)).alloc (.cells ZCMP TCMP) = W := ⟨_, rfl⟩
 have hE : Ext w W := by rw [← hW]; exact (((Keep.refl _ _).alloc _).alloc _).alloc _
 have hsz : W.heap.size = w.heap.size + 3 := by rw [← hW]; simp
 have hc : Blk W w.heap.size TCMP #[.int .u8 0, .slice Ap np cp, .string ⟨#[]⟩, .int .i64 0, .int .i64 0, .int .i64 0, .int .u8 0, .int .i64 0, .string ⟨#[]⟩, .slice none 0 0, .slice none 0 0, .string ⟨#[]⟩] := by rw [← hW]; exact ((Blk.new _ _ _).alloc _).alloc _
 have hb : Blk W (w.heap.size + 1) TACT (acCells a (.slice Aa a.path.length ca) (.slice Av a.v.length cv)) := by
  have := (Blk.new (w.alloc (.cells #[.int .u8 0, .slice Ap np cp, .string ⟨#[]⟩, .int .i64 0, .int .i64 0, .int .i64 0, .int .u8 0, .int .i64 0, .string ⟨#[]⟩, .slice none 0 0, .slice none 0 0, .string ⟨#[]⟩] TCMP)) TACT (acCells a (.slice Aa a.path.length ca) (.slice Av a.v.length cv))).alloc (.cells ZCMP TCMP)
  rw [World.size_alloc, hW] at this
  exact this
 have hr : Blk W (w.heap.size + 2) TCMP ZCMP := by
  have := Blk.new ((w.alloc (.cells #[.int .u8 0, .slice Ap np cp, .string ⟨#[]⟩, .int .i64 0, .int .i64 0, .int .i64 0, .int .u8 0, .int .i64 0, .string ⟨#[]⟩, .slice none 0 0, .slice none 0 0, .string ⟨#[]⟩] TCMP)).alloc (.cells (acCells a (.slice Aa a.path.length ca) (.slice Av a.v.length cv)) TACT)) TCMP ZCMP
  rw [World.size_alloc, World.size_alloc, hW] at this
  exact this
 obtain ⟨i0, hi0, hi0m⟩ := run_max0 a.i hwi
 obtain ⟨j0, hj0, hj0m⟩ := run_max0 a.j hwj
 have b1 := hb.cell 1
 have b2 := hb.cell 2
 have b3 := hb.cell 3
 have b5 := hb.cell 5
 have f0 := hc.frozen 0
 have f3 := hc.frozen 3
 have c0 := hc.cell 0
 have c3 := hc.cell 3
 simp at b1 b2 b3 b5 c0 c3
 have HC := hid hc
 have HB := hid hb
 have HR := hid hr
 have HE := hid hE
 have hQ : ((i0 : Int)).tmod ((n : Int) + 1) = ((i0 % (n + 1) : Nat) : Int) := by rw [← Int.natCast_succ, ← Int.ofNat_tmod]
 obtain ⟨q, hq⟩ : ∃ q, i0 % (n + 1) = q := ⟨_, rfl⟩
 have hqn : q ≤ n := by have : i0 % (n + 1) < n + 1 := Nat.mod_lt _ (by omega); omega
 rw [hq] at hQ
 clear hc hb hr hE
 go_enter Tryd.func67, Tryd.ntmps67
 go_wp2_with fail
 obtain ⟨X1, hX1⟩ : ∃ X1, (W.setCell ⟨w.heap.size, 0, none⟩ (.int .u8 8)).setCell ⟨w.heap.size, 3, none⟩ (.int .i64 (q : Int)) = X1 := ⟨_, rfl⟩
 have hk1 : Keep (· = w.heap.size) W X1 := by rw [← hX1]; exact ((Keep.refl (· = w.heap.size) W).set1 0 _).set1 3 _
 have hx1 : Blk X1 w.heap.size TCMP #[.int .u8 8, .slice Ap np cp, .string ⟨#[]⟩, .int .i64 (q : Int), .int .i64 0, .int .i64 0, .int .u8 0, .int .i64 0, .string ⟨#[]⟩, .slice none 0 0, .slice none 0 0, .string ⟨#[]⟩] := by
  rw [← hX1]; exact (HC.out.set_ 0 (.int .u8 8)).set_ 3 (.int .i64 (q : Int))
 rw [hX1]
 have HX1 := hid hx1
 have HB1 := hid (HB.out.keep hk1 (by omega))
 have HR1 := hid (HR.out.keep hk1 (by omega))
 have HE1 := hid (HE.out.trans hk1 fun k hk e => by omega)
 clear hX1 hk1 hx1 b1 b2 b3 b5 c0 c3 f0 f3
 refine (plain6_ok a.s X1).mono ?_
 rintro e X2 ⟨rfl, hE2⟩
 obtain ⟨l, hl⟩ : ∃ l, plainL a.s = l := ⟨_, rfl⟩
 have HL := hid (show l.length ≤ 40 ∧ ∀ c ∈ l, c.toNat < 128 from by
  rw [← hl]
  refine ⟨plain_len _, fun c hc => ?_⟩
  exact (plain_asc a.s).1 c (by simpa [textOf] using hc))
 rw [hl]
 clear hl
 replace HX1 := hid (HX1.out.keep hE2 id)
 replace HB1 := hid (HB1.out.keep hE2 id)
 replace HR1 := hid (HR1.out.keep hE2 id)
 replace HE1 := hid (HE1.out.ext hE2)
 clear hE2
 have hadd : ∀ w' : World, (Op.stringOp .add (⟨#[120]⟩ : ByteArray) (textOf l)).run Tryd.prog w' = .ok (.string (textOf (120 :: l))) w' := fun w' => by
  rw [run_string_add_sum w' _ _ (by have := HL.out.1; simp [textOf, ByteArray.size]; omega)]
  congr 3
 obtain ⟨SS, hSS⟩ : ∃ SS, textOf (120 :: l) = SS := ⟨_, rfl⟩
 rw [hSS] at hadd
 have HSS := hid hSS
 have b1 := HB1.out.cell 1
 have b2 := HB1.out.cell 2
 have b3 := HB1.out.cell 3
 have b5 := HB1.out.cell 5
 have c0 := HX1.out.cell 0
 have c1 := HX1.out.cell 1
 have c2 := HX1.out.cell 2
 have c3 := HX1.out.cell 3
 have c4 := HX1.out.cell 4
 have c5 := HX1.out.cell 5
 have c6 := HX1.out.cell 6
 have c7 := HX1.out.cell 7
 have c8 := HX1.out.cell 8
 have c9 := HX1.out.cell 9
 have c10 := HX1.out.cell 10
 have c11 := HX1.out.cell 11
 obtain ⟨f0, f1, f2, f3, f4, f5, f6, f7, f8, f9, f10, f11⟩ := sqf12 HX1.out
 obtain ⟨d0, d1, d2, d3, d4, d5, d6, d7, d8, d9, d10, d11⟩ := sq12 HR1.out
 obtain ⟨g0, g1, g2, g3, g4, g5, g6, g7, g8, g9, g10, g11⟩ := sqf12 HR1.out
 simp at b1 b2 b3 b5 c0 c1 c2 c3 c4 c5 c6 c7 c8 c9 c10 c11
 clear hSS
 obtain ⟨r2, hr2⟩ : ∃ r2, a.kind.toNat % 2 = r2 := ⟨_, rfl⟩
 have hkz : ((a.kind.toNat : Int)).tmod 2 = (r2 : Int) := by rw [Int.tmod_eq_emod_of_nonneg (by omega)]; omega
 have hkz2 : (a.kind.toNat : Int) % 2 = (r2 : Int) := by omega
 by_cases hpos : 0 < n ∧ r2 = 0
 ·obtain ⟨hpos, rfl⟩ := hpos
  have hX : (0 : Int) < (n : Int) := by omega
  have hQ2 : ((i0 : Int)).tmod (n : Int) = ((i0 % n : Nat) : Int) := by rw [← Int.ofNat_tmod]
  obtain ⟨q2, hq2⟩ : ∃ q2, i0 % n = q2 := ⟨_, rfl⟩
  have hq2n : q2 < n := by have := Nat.mod_lt i0 hpos; omega
  rw [hq2] at hQ2
  obtain ⟨m2, hm2⟩ : ∃ m2, j0 % (n - q2) = m2 := ⟨_, rfl⟩
  have hm2n : m2 < n - q2 := by have : j0 % (n - q2) < n - q2 := Nat.mod_lt _ (by omega); omega
  have hQ3 : ((j0 : Int)).tmod ((n : Int) - (q2 : Int)) = (m2 : Int) := by
   rw [← hm2, show (n : Int) - (q2 : Int) = ((n - q2 : Nat) : Int) from by omega, ← Int.ofNat_tmod]
  clear hr2 hq2 hm2
  have hnz : ¬ ((n : Int) - (q2 : Int) = 0) := by omega
  have hnz2 : ¬ (n : Int) = 0 := by omega
  have HF := hid (show Ext w (((((((((((((((((X2.setCell ⟨w.heap.size, 11, none⟩ (.string SS)).setCell ⟨w.heap.size, 0, none⟩ (.int .u8 9)).setCell ⟨w.heap.size, 11, none⟩ (.string ⟨#[]⟩)).setCell ⟨w.heap.size, 3, none⟩ (.int .i64 (q2 : Int))).setCell ⟨w.heap.size, 5, none⟩ (.int .i64 (1 + (m2 : Int)))).setCell ⟨w.heap.size + 1 + 1, 0, none⟩ (.int .u8 9)).setCell ⟨w.heap.size + 1 + 1, 1, none⟩ (.slice Ap np cp)).setCell ⟨w.heap.size + 1 + 1, 2, none⟩ (.string ⟨#[]⟩)).setCell ⟨w.heap.size + 1 + 1, 3, none⟩ (.int .i64 (q2 : Int))).setCell ⟨w.heap.size + 1 + 1, 4, none⟩ (.int .i64 0)).setCell ⟨w.heap.size + 1 + 1, 5, none⟩ (.int .i64 (1 + (m2 : Int)))).setCell ⟨w.heap.size + 1 + 1, 6, none⟩ (.int .u8 0)).setCell ⟨w.heap.size + 1 + 1, 7, none⟩ (.int .i64 0)).setCell ⟨w.heap.size + 1 + 1, 8, none⟩ (.string ⟨#[]⟩)).setCell ⟨w.heap.size + 1 + 1, 9, none⟩ (.slice none 0 0)).setCell ⟨w.heap.size + 1 + 1, 10, none⟩ (.slice none 0 0)).setCell ⟨w.heap.size + 1 + 1, 11, none⟩ (.string ⟨#[]⟩)) from HE1.out.trans ((((((((((((((((((Keep.refl (fun k => w.heap.size ≤ k) X2).setAt (fun _ => by omega) _ _).setAt (fun _ => by omega) _ _).setAt (fun _ => by omega) _ _).setAt (fun _ => by omega) _ _).setAt (fun _ => by omega) _ _).setAt (fun _ => by omega) _ _).setAt (fun _ => by omega) _ _).setAt (fun _ => by omega) _ _).setAt (fun _ => by omega) _ _).setAt (fun _ => by omega) _ _).setAt (fun _ => by omega) _ _).setAt (fun _ => by omega) _ _).setAt (fun _ => by omega) _ _).setAt (fun _ => by omega) _ _).setAt (fun _ => by omega) _ _).setAt (fun _ => by omega) _ _).setAt (fun _ => by omega) _ _) fun k hk e => by omega)
  go_wp2
  refine bodyPost_ret (v := .agg #[U8 9, .slice Ap np cp, .string ⟨#[]⟩, .int .i64 (q2 : Int), .int .i64 0, .int .i64 (1 + (m2 : Int)), U8 0, .int .i64 0, .string ⟨#[]⟩, .slice none 0 0, .slice none 0 0, .string ⟨#[]⟩]) (by simp [results, Tryd.results67, go_sem, d0, d1, d2, d3, d4, d5, d6, d7, d8, d9, d10, d11]) rfl ⟨9, (q2 : Int), (1 + (m2 : Int)), ⟨#[]⟩, rfl, .inr ⟨rfl, ⟨q2, 1 + m2, rfl, hq2n, by omega, by omega, by omega⟩, rfl⟩, HF.out⟩
 ·have hcase : n = 0 ∨ (0 < n ∧ r2 = 1) := by
   have : r2 < 2 := by rw [← hr2]; exact Nat.mod_lt _ (by decide)
   omega
  have HOK := hid (show TextOk n 8 (q : Int) 0 SS from .inl ⟨rfl, ⟨q, rfl, hqn⟩, rfl, l, HL.out.1, HL.out.2, HSS.out.symm⟩)
  rcases hcase with h0 | ⟨h0, h1⟩
  ·have hX : ¬ (0 : Int) < (n : Int) := by omega
   clear hr2 hpos
   have HF := hid (show Ext w (((((((((((((X2.setCell ⟨w.heap.size, 11, none⟩ (.string SS)).setCell ⟨w.heap.size + 1 + 1, 0, none⟩ (.int .u8 8)).setCell ⟨w.heap.size + 1 + 1, 1, none⟩ (.slice Ap np cp)).setCell ⟨w.heap.size + 1 + 1, 2, none⟩ (.string ⟨#[]⟩)).setCell ⟨w.heap.size + 1 + 1, 3, none⟩ (.int .i64 (q : Int))).setCell ⟨w.heap.size + 1 + 1, 4, none⟩ (.int .i64 0)).setCell ⟨w.heap.size + 1 + 1, 5, none⟩ (.int .i64 0)).setCell ⟨w.heap.size + 1 + 1, 6, none⟩ (.int .u8 0)).setCell ⟨w.heap.size + 1 + 1, 7, none⟩ (.int .i64 0)).setCell ⟨w.heap.size + 1 + 1, 8, none⟩ (.string ⟨#[]⟩)).setCell ⟨w.heap.size + 1 + 1, 9, none⟩ (.slice none 0 0)).setCell ⟨w.heap.size + 1 + 1, 10, none⟩ (.slice none 0 0)).setCell ⟨w.heap.size + 1 + 1, 11, none⟩ (.string SS)) from HE1.out.trans ((((((((((((((Keep.refl (fun k => w.heap.size ≤ k) X2).setAt (fun _ => by omega) _ _).setAt (fun _ => by omega) _ _).setAt (fun _ => by omega) _ _).setAt (fun _ => by omega) _ _).setAt (fun _ => by omega) _ _).setAt (fun _ => by omega) _ _).setAt (fun _ => by omega) _ _).setAt (fun _ => by omega) _ _).setAt (fun _ => by omega) _ _).setAt (fun _ => by omega) _ _).setAt (fun _ => by omega) _ _).setAt (fun _ => by omega) _ _).setAt (fun _ => by omega) _ _) fun k hk e => by omega)
   go_wp2
   refine bodyPost_ret (v := .agg #[U8 8, .slice Ap np cp, .string ⟨#[]⟩, .int .i64 (q : Int), .int .i64 0, .int .i64 0, U8 0, .int .i64 0, .string ⟨#[]⟩, .slice none 0 0, .slice none 0 0, .string SS]) (by simp [results, Tryd.results67, go_sem, d0, d1, d2, d3, d4, d5, d6, d7, d8, d9, d10, d11]) rfl ⟨8, (q : Int), 0, SS, rfl, HOK.out, HF.out⟩
  ·have hX : (0 : Int) < (n : Int) := by omega
   subst h1
   clear hr2 hpos
   have HF := hid (show Ext w (((((((((((((X2.setCell ⟨w.heap.size, 11, none⟩ (.string SS)).setCell ⟨w.heap.size + 1 + 1, 0, none⟩ (.int .u8 8)).setCell ⟨w.heap.size + 1 + 1, 1, none⟩ (.slice Ap np cp)).setCell ⟨w.heap.size + 1 + 1, 2, none⟩ (.string ⟨#[]⟩)).setCell ⟨w.heap.size + 1 + 1, 3, none⟩ (.int .i64 (q : Int))).setCell ⟨w.heap.size + 1 + 1, 4, none⟩ (.int .i64 0)).setCell ⟨w.heap.size + 1 + 1, 5, none⟩ (.int .i64 0)).setCell ⟨w.heap.size + 1 + 1, 6, none⟩ (.int .u8 0)).setCell ⟨w.heap.size + 1 + 1, 7, none⟩ (.int .i64 0)).setCell ⟨w.heap.size + 1 + 1, 8, none⟩ (.string ⟨#[]⟩)).setCell ⟨w.heap.size + 1 + 1, 9, none⟩ (.slice none 0 0)).setCell ⟨w.heap.size + 1 + 1, 10, none⟩ (.slice none 0 0)).setCell ⟨w.heap.size + 1 + 1, 11, none⟩ (.string SS)) from HE1.out.trans ((((((((((((((Keep.refl (fun k => w.heap.size ≤ k) X2).setAt (fun _ => by omega) _ _).setAt (fun _ => by omega) _ _).setAt (fun _ => by omega) _ _).setAt (fun _ => by omega) _ _).setAt (fun _ => by omega) _ _).setAt (fun _ => by omega) _ _).setAt (fun _ => by omega) _ _).setAt (fun _ => by omega) _ _).setAt (fun _ => by omega) _ _).setAt (fun _ => by omega) _ _).setAt (fun _ => by omega) _ _).setAt (fun _ => by omega) _ _).setAt (fun _ => by omega) _ _) fun k hk e => by omega)
   go_wp2
   refine bodyPost_ret (v := .agg #[U8 8, .slice Ap np cp, .string ⟨#[]⟩, .int .i64 (q : Int), .int .i64 0, .int .i64 0, U8 0, .int .i64 0, .string ⟨#[]⟩, .slice none 0 0, .slice none 0 0, .string SS]) (by simp [results, Tryd.results67, go_sem, d0, d1, d2, d3, d4, d5, d6, d7, d8, d9, d10, d11]) rfl ⟨8, (q : Int), 0, SS, rfl, HOK.out, HF.out⟩
end Go.Proofs.YtggkidnlmaindaaDoor
