/- EntB, EntE, RSame7, EntD, ProjN: laid together. -/
import Derived.Test.YtggkidnlmaindaaDoorPxB39
import Derived.Test.YtggkidnlmaindaaDoorPxB8
import Derived.Test.YtggkidnlmaindaaDoorPxB34
import Derived.Test.YtggkidnlmaindaaDoorPxB40
import Derived.Test.YtggkidnlmaindaaDoorPxB22
import Derived.Test.YtggkidnlmaindaaDoorPxB30
import Derived.Test.YtggkidnlmaindaaDoorPxB38
set_option linter.unusedSimpArgs false
set_option linter.unusedVariables false
set_option maxHeartbeats 25600000
set_option maxRecDepth 20000
namespace Go.Proofs.YtggkidnlmaindaaDoor
open Go.RowKit
def EntIs (w : World) (c1 c2 : Int) (x : V) (l : List Cp) (e : Ending) (w' : World) : Prop := ∃ lv ov op, e = .returned (.agg #[.int .u8 2, .int .u32 c1, .int .u32 c2, U8 x.kind, .int .i64 x.n, .string x.s, lv, ov, op]) ∧
 VAt w' (fun _ => True) (.agg #[U8 x.kind, .int .i64 x.n, .string x.s, lv, ov]) x ∧ Sl ECp w' (fun _ => True) op l ∧ Ext w w'
theorem entry_edit (w : World) (S S2 S3 : BS) (c1 c2 : Int) (v0 v1 v2 v3 v4 ov fv : Value) (x : V) (cs : List Cp) (fs : List ByteArray) (hx : VAt w S3 (.agg #[v0, v1, v2, v3, v4]) x) (hxz : x.size ≤ 1000000) (ho : Sl ECp w S ov cs) (hs : Sl EStr w S2 fv fs) (hcf : ∀ c ∈ cs, Fit c) (hn : cs.length ≤ 1000) :
  Calls Tryd.prog 21 #[.agg #[.int .u8 2, .int .u32 c1, .int .u32 c2, v0, v1, v2, v3, v4, ov], fv] w (EntIs w c1 c2 x (cs.filter (touchL fs))) := by
 obtain ⟨lx, ox, e, hl, hox⟩ := hx
 simp at e
 obtain ⟨rfl, rfl, rfl, rfl, rfl⟩ := e
 obtain ⟨Al, cl, rfl, _⟩ := hl.shape
 obtain ⟨Ao, co, rfl, _⟩ := hox.shape
 have ho := ho.more (S' := fun k => k < w.heap.size) ECp.ok fun k h _ => h
 have hs := hs.more (S' := fun k => k < w.heap.size) EStr.ok fun k h _ => h
 obtain ⟨A, c, rfl, hlc, hcm⟩ := ho.shape
 obtain ⟨Af, cf, rfl, _⟩ := hs.shape
 unfold maxLen at hcm
 have HN1 := hid hn
 obtain ⟨n, hnn⟩ : ∃ n, cs.length = n := ⟨_, rfl⟩
 have HN := hid hnn
 rw [hnn] at ho hlc ⊢
 obtain ⟨W, hW⟩ : ∃ W, (w.alloc (.cells #[.int .u8 2, .int .u32 c1, .int .u32 c2, U8 x.kind, .int .i64 x.n, .string x.s, .slice Al x.l.length cl, .slice Ao x.o.length co, .slice A n c] TENT)).alloc (.cells #[.int .u8 0, .int .u32 0, .int .u32 0, .int .u8 0, .int .i64 0, .string ⟨#[]⟩, .slice none 0 0, .slice none 0 0, .slice none 0 0] TENT) = W := ⟨_, rfl⟩
 have hE : Ext w W := by rw [← hW]; exact ((Keep.refl _ _).alloc _).alloc _
 have hsz : W.heap.size = w.heap.size + 2 := by rw [← hW]; simp
 have hb : Blk W w.heap.size TENT #[.int .u8 2, .int .u32 c1, .int .u32 c2, U8 x.kind, .int .i64 x.n, .string x.s, .slice Al x.l.length cl, .slice Ao x.o.length co, .slice A n c] := by rw [← hW]; exact (Blk.new _ _ _).alloc _
 have hr : Blk W (w.heap.size + 1) TENT #[.int .u8 0, .int .u32 0, .int .u32 0, .int .u8 0, .int .i64 0, .string ⟨#[]⟩, .slice none 0 0, .slice none 0 0, .slice none 0 0] := by
  have := Blk.new (w.alloc (.cells #[.int .u8 2, .int .u32 c1, .int .u32 c2, U8 x.kind, .int .i64 x.n, .string x.s, .slice Al x.l.length cl, .slice Ao x.o.length co, .slice A n c] TENT)) TENT #[.int .u8 0, .int .u32 0, .int .u32 0, .int .u8 0, .int .i64 0, .string ⟨#[]⟩, .slice none 0 0, .slice none 0 0, .slice none 0 0]
  rw [World.size_alloc, hW] at this
  exact this
 have HX := hid (show VAt W S3 (.agg (vC x Al cl Ao co)) x from ⟨_, _, rfl, hl.ext EVal.ok hE, hox.ext EField.ok hE⟩)
 have HO := hid (ho.ext ECp.ok hE)
 have HS := hid (hs.ext EStr.ok hE)
 have HE := hid hE
 have HSZ := hid hsz
 have HB := hid hb
 have HR := hid hr
 have HCF := hid hcf
 have HXZ := hid hxz
 have x0 := hb.cell 0
 have x1 := hb.cell 1
 have x2 := hb.cell 2
 have x3 := hb.cell 3
 have x4 := hb.cell 4
 have x5 := hb.cell 5
 have x6 := hb.cell 6
 have x7 := hb.cell 7
 have x8 := hb.cell 8
 simp at x0 x1 x2 x3 x4 x5 x6 x7 x8
 clear hl hox ho hs hE hsz hb hr hcf hxz hn hnn
 go_enter Tryd.func21, Tryd.ntmps21
 go_wp2_with fail
 refine (copy_valT 1000000 x HXZ.out (Nat.le_refl _) _ S3 W HX.out).mono ?_
 rintro e w1 ⟨lv1, ov1, rfl, htv, hE1⟩
 obtain ⟨⟨Bl, dl, rfl⟩, Bo, do_, rfl⟩ := htv.shapes
 have hva := TV_at htv (S := fun q => W.heap.size ≤ q) fun q h _ => h
 have hb1 := HB.out.keep hE1 id
 have hws := HSZ.out
 obtain ⟨W5, hW5⟩ : ∃ W5, ((((((w1.setCell ⟨w.heap.size, 3, none⟩ (.int .u8 (x.kind.toNat : Int))).setCell ⟨w.heap.size, 4, none⟩ (.int .i64 x.n)).setCell ⟨w.heap.size, 5, none⟩ (.string x.s)).setCell ⟨w.heap.size, 6, none⟩ (.slice Bl x.l.length dl)).setCell ⟨w.heap.size, 7, none⟩ (.slice Bo x.o.length do_)).setCell ⟨w.heap.size, 8, none⟩ (.slice none 0 0)) = W5 := ⟨_, rfl⟩
 have hk5 : Keep (· = w.heap.size) w1 W5 := by rw [← hW5]; exact ((((((Keep.refl (· = w.heap.size) w1).set1 3 _).set1 4 _).set1 5 _).set1 6 _).set1 7 _).set1 8 _
 have hb5 : Blk W5 w.heap.size TENT #[.int .u8 2, .int .u32 c1, .int .u32 c2, U8 x.kind, .int .i64 x.n, .string x.s, .slice Bl x.l.length dl, .slice Bo x.o.length do_, .slice none 0 0] := by
  rw [← hW5]; exact (((((hb1.set_ 3 (.int .u8 (x.kind.toNat : Int))).set_ 4 (.int .i64 x.n)).set_ 5 (.string x.s)).set_ 6 (.slice Bl x.l.length dl)).set_ 7 (.slice Bo x.o.length do_)).set_ 8 (.slice none 0 0)
 have HV5 := hid (hva.keep hk5 fun q h e => by have h : W.heap.size ≤ q := h; omega)
 have HO5 := hid ((HO.out.ext ECp.ok hE1).keep ECp.ok hk5 fun q h e => by have h : q < w.heap.size := h; omega)
 have HS5 := hid ((HS.out.ext EStr.ok hE1).keep EStr.ok hk5 fun q h e => by have h : q < w.heap.size := h; omega)
 have HR5 := hid ((HR.out.keep hE1 id).keep hk5 (by omega))
 have HE5 := hid (show Ext w W5 from (HE.out.ext hE1).trans hk5 fun q h e => by omega)
 have HZ5 := hid (show w.heap.size + 2 ≤ W5.heap.size from by have := hE1.size; have := hk5.size; omega)
 have HB5 := hid hb5
 have y0 := hb1.cell 0
 have y1 := hb1.cell 1
 have y2 := hb1.cell 2
 have y3 := hb1.cell 3
 have y4 := hb1.cell 4
 have y5 := hb1.cell 5
 have y6 := hb1.cell 6
 have y7 := hb1.cell 7
 have y8 := hb1.cell 8
 have f0 := hb1.frozen 0
 have f1 := hb1.frozen 1
 have f2 := hb1.frozen 2
 have f3 := hb1.frozen 3
 have f4 := hb1.frozen 4
 have f5 := hb1.frozen 5
 have f6 := hb1.frozen 6
 have f7 := hb1.frozen 7
 have f8 := hb1.frozen 8
 simp at y0 y1 y2 y3 y4 y5 y6 y7 y8
 clear htv hva hk5 hb5 hb1 hE1 x0 x1 x2 x3 x4 x5 x6 x7 x8 HX HO HS HR HE HB hws hW
 go_wp2_with fail
 clear hW5 y0 y1 y2 y3 y4 y5 y6 y7 y8 f0 f1 f2 f3 f4 f5 f6 f7 f8
 go_loopw [7, 25] (fun _ i wr => ∃ (j : Nat) (out : Value), i = .int .i64 j ∧ j ≤ n ∧ Blk wr w.heap.size TENT #[.int .u8 2, .int .u32 c1, .int .u32 c2, U8 x.kind, .int .i64 x.n, .string x.s, .slice Bl x.l.length dl, .slice Bo x.o.length do_, out] ∧ Own ECp wr W5.heap.size TCMP (DS wr W5.heap.size out) out ((cs.take j).filter (touchL fs)) ∧ Keep (· = w.heap.size) W5 wr) (fun _ i _ => n - (intOf i).toNat)
 case atStart => exact ⟨0, _, rfl, by omega, HB5.out, Own.nil _ _ _ _, Keep.refl _ _⟩
 case round =>
  obtain ⟨j, out, rfl, hj, hb, hown, hkr⟩ := hrel
  obtain ⟨A4, c4, rfl, h4l, h4m⟩ := hown.shape
  have hz5 := HZ5.out
  have hkz := hkr.size
  have HOr := hid (HO5.out.keep ECp.ok hkr fun q h e => by have h : q < w.heap.size := h; omega)
  have HSr := hid (HS5.out.keep EStr.ok hkr fun q h e => by have h : q < w.heap.size := h; omega)
  have HB := hid hb
  have HOW := hid hown
  have HK := hid hkr
  have y0 := hb.cell 0
  have y1 := hb.cell 1
  have y2 := hb.cell 2
  have y3 := hb.cell 3
  have y4 := hb.cell 4
  have y5 := hb.cell 5
  have y6 := hb.cell 6
  have y7 := hb.cell 7
  have y8 := hb.cell 8
  simp at y0 y1 y2 y3 y4 y5 y6 y7 y8
  clear hb hown hkr
  by_cases hlt : j < n
  ·have hltX : (j : Int) < n := by omega
   have hj' : j < cs.length := by rw [HN.out]; exact hlt
   obtain ⟨bp, op, c0, rfl, _, _, ⟨pv, lv, ov, rfl, p1, p2, p3⟩, hcell⟩ := HOr.out.at_ ECp.ok hj'
   have HFC := hid (HCF.out _ (List.getElem_mem hj'))
   have HTK := hid (show (cs.take (j + 1)).filter (touchL fs) = (cs.take j).filter (touchL fs) ++ (if touchL fs cs[j] = true then [cs[j]] else []) from by rw [List.take_succ_eq_append_getElem hj', List.filter_append]; congr 1; by_cases h : touchL fs cs[j] = true <;> simp [h])
   generalize cs[j] = d at *
   obtain ⟨Ap, cp, rfl, _⟩ := p1.shape
   obtain ⟨Aq, cq, rfl, _⟩ := p2.shape
   obtain ⟨Ar, cr, rfl, _⟩ := p3.shape
   have HCC := hid (show CAt wr (fun k => k < w.heap.size) (.agg (cC d Ap cp Aq cq Ar cr)) d from ⟨_, _, _, rfl, p1, p2, p3⟩)
   have e12 : ECp.size = 12 := rfl
   have g0 := hcell 0 _ rfl
   have g1 := hcell 1 _ rfl
   have g2 := hcell 2 _ rfl
   have g3 := hcell 3 _ rfl
   have g4 := hcell 4 _ rfl
   have g5 := hcell 5 _ rfl
   have g6 := hcell 6 _ rfl
   have g7 := hcell 7 _ rfl
   have g8 := hcell 8 _ rfl
   have g9 := hcell 9 _ rfl
   have g10 := hcell 10 _ rfl
   have g11 := hcell 11 _ rfl
   simp only [e12, Nat.add_zero] at g0 g1 g2 g3 g4 g5 g6 g7 g8 g9 g10 g11
   have hA : Ext wr (wr.alloc (.cells #[U8 d.kind, .slice Ap d.path.length cp, .string d.key, .int .i64 d.i, .int .i64 d.j, .int .i64 d.n, U8 d.v.kind, .int .i64 d.v.n, .string d.v.s, .slice Aq d.v.l.length cq, .slice Ar d.v.o.length cr, .string d.s] TCMP)) := (Keep.refl _ _).alloc _
   have HA := hid hA
   have HBC := hid (Blk.new wr TCMP #[U8 d.kind, .slice Ap d.path.length cp, .string d.key, .int .i64 d.i, .int .i64 d.j, .int .i64 d.n, U8 d.v.kind, .int .i64 d.v.n, .string d.v.s, .slice Aq d.v.l.length cq, .slice Ar d.v.o.length cr, .string d.s])
   clear hcell p1 p2 p3 e12 hA hj'
   go_upto_region 9 with fail
   change Code.wp _ _ _ _ (wr.alloc (.cells #[U8 d.kind, .slice Ap d.path.length cp, .string d.key, .int .i64 d.i, .int .i64 d.j, .int .i64 d.n, U8 d.v.kind, .int .i64 d.v.n, .string d.v.s, .slice Aq d.v.l.length cq, .slice Ar d.v.o.length cr, .string d.s] TCMP))
   have HCC2 := hid (HCC.out.ext HA.out)
   have HS2 := hid (HSr.out.ext EStr.ok HA.out)
   have HB2 := hid (HB.out.keep HA.out id)
   have HOW2 := hid (HOW.out.ext ECp.ok HA.out)
   have HK2 := hid (HK.out.trans HA.out fun q _ h => h.elim)
   have HZ2 := hid (show wr.heap.size ≤ (wr.alloc (.cells #[U8 d.kind, .slice Ap d.path.length cp, .string d.key, .int .i64 d.i, .int .i64 d.j, .int .i64 d.n, U8 d.v.kind, .int .i64 d.v.n, .string d.v.s, .slice Aq d.v.l.length cq, .slice Ar d.v.o.length cr, .string d.s] TCMP)).heap.size from HA.out.size)
   clear y0 y1 y2 y3 y4 y5 y6 y7 y8 g0 g1 g2 g3 g4 g5 g6 g7 g8 g9 g10 g11 HA HOr HSr HCC HB HK
   generalize (wr.alloc (.cells #[U8 d.kind, .slice Ap d.path.length cp, .string d.key, .int .i64 d.i, .int .i64 d.j, .int .i64 d.n, U8 d.v.kind, .int .i64 d.v.n, .string d.v.s, .slice Aq d.v.l.length cq, .slice Ar d.v.o.length cr, .string d.s] TCMP)) = w2 at *
   obtain ⟨tb, htb⟩ : ∃ tb, touchL fs d = tb := ⟨_, rfl⟩
   have HTB := hid htb
   have y0 := HB2.out.cell 0
   have y1 := HB2.out.cell 1
   have y2 := HB2.out.cell 2
   have y3 := HB2.out.cell 3
   have y4 := HB2.out.cell 4
   have y5 := HB2.out.cell 5
   have y6 := HB2.out.cell 6
   have y7 := HB2.out.cell 7
   have y8 := HB2.out.cell 8
   obtain ⟨g0, g1, g2, g3, g4, g5, g6, g7, g8, g9, g10, g11⟩ := sq12 HBC.out
   simp at y0 y1 y2 y3 y4 y5 y6 y7 y8
   go_wp2_with fail
   refine (touches_ok w2 _ _ _ _ d fs HCC2.out HS2.out).mono ?_
   rintro e w3 ⟨rfl, hE3⟩
   rw [htb]
   have HB3 := hid (HB2.out.keep hE3 id)
   have HBC3 := hid (HBC.out.keep hE3 id)
   have HCC3 := hid (HCC2.out.ext hE3)
   have HOW3 := hid (HOW2.out.ext ECp.ok hE3)
   have HK3 := hid (HK2.out.trans hE3 fun q _ h => h.elim)
   have HZ3 := hid (show wr.heap.size ≤ w3.heap.size from Nat.le_trans HZ2.out hE3.size)
   clear hE3 htb y0 y1 y2 y3 y4 y5 y6 y7 y8 g0 g1 g2 g3 g4 g5 g6 g7 g8 g9 g10 g11 HB2 HBC HCC2 HOW2 HK2 HZ2 HS2
   cases tb with
   | false =>
    go_wp2
    go_roundw
    case rel => exact ⟨j + 1, _, by go_num, by omega, HB3.out, by rw [HTK.out, if_neg (by rw [HTB.out]; decide), List.append_nil]; exact HOW3.out.more ECp.ok fun k _ h => ⟨h.1, Nat.lt_of_lt_of_le h.2.1 HZ3.out, h.2.2⟩, HK3.out⟩
    case measure => simp [intOf]; omega
   | true =>
    have HTA := hid (show (cs.take (j + 1)).filter (touchL fs) = (cs.take j).filter (touchL fs) ++ [d] from by rw [HTK.out, if_pos HTB.out])
    have hlen : ((cs.take j).filter (touchL fs)).length ≤ 1000 := Nat.le_trans (List.length_filter_le _ _) (by rw [List.length_take]; have := HN1.out; omega)
    have HLN := hid hlen
    clear hlen HTK
    generalize (cs.take j).filter (touchL fs) = ta at *
    have y8 := HB3.out.cell 8
    obtain ⟨g0, g1, g2, g3, g4, g5, g6, g7, g8, g9, g10, g11⟩ := sq12 HBC3.out
    simp at y8
    go_wp2_with fail
    refine wp_region_parts [0] [1, 2, 3, 4] [5, 6, 7] (specOf [(3, fun u w' => CAt w' (fun k => w3.heap.size ≤ k) u d), (4, fun v w' => SlShape ECp w' (fun k => w3.heap.size ≤ k) v 1 [d])])
      (fun w' => Ext w3 w') ?_ (stableC_ext _) (by kernel_rfl) (by kernel_rfl) (Keep.drew (Keep.refl _ _)) ?_
    ·exact stable_cons (fun v w w' h he => h.ext he) (stable_cons (fun v w w' h he => h.ext ECp.ok he) stable_nil)
    iterate 1
     (try simp only [Act.put, sqa, sqb, sqc])
     refine pure_run rfl rfl ?_
     apply Exists.intro
     refine ⟨fun w' => ?_, ?_⟩
     ·go_simp
      rfl
    refine pure_nil ?_
    iterate 2
     (try simp only [Act.put, sqa, sqb, sqc])
     refine growP_run rfl rfl rfl ?_
     apply Exists.intro
     refine ⟨fun w' hC hK => ?_, ?_⟩
     ·have y8 := sqw hC y8
      have g0 := sqw hC g0
      have g1 := sqw hC g1
      have g2 := sqw hC g2
      have g3 := sqw hC g3
      have g4 := sqw hC g4
      have g5 := sqw hC g5
      have g6 := sqw hC g6
      have g7 := sqw hC g7
      have g8 := sqw hC g8
      have g9 := sqw hC g9
      have g10 := sqw hC g10
      have g11 := sqw hC g11
      go_simp
      rfl
    (try simp only [Act.put, sqa, sqb, sqc])
    refine growP_eff rfl rfl rfl (fun w' hC hK => ?_) (fun v3 hv3 => ?_)
    ·unfold growAt
     go_simp
     refine grow_call ((comp_copy w' _ _ d (HCC3.out.ext hC) HFC.out.1 HFC.out.2).mono ?_)
     rintro e w'' ⟨u', rfl, h1, h2⟩
     exact ⟨_, rfl, h2, h1.more fun k _ h => by have := hC.size; omega⟩
    obtain ⟨_, _, pq, lq, oq, rfl, hp1, hp2, hp3⟩ := hv3.head
    obtain ⟨Bp, dp, rfl, _⟩ := hp1.shape
    obtain ⟨Bq, dq, rfl, _⟩ := hp2.shape
    obtain ⟨Br, dr, rfl, _⟩ := hp3.shape
    clear hp1 hp2 hp3
    (try simp only [Act.put, sqa, sqb, sqc])
    refine growP_eff rfl rfl rfl (fun w' hC hK => ?_) (fun v4 hv4 => ?_)
    ·have h3 : CAt w' (fun k => w3.heap.size ≤ k) (.agg (cC d Bp dp Bq dq Br dr)) d := hK.get (i := 3) List.mem_cons_self (by kernel_rfl)
     have hcz := hC.size
     obtain ⟨pz, lz, oz, e, k1, k2, k3⟩ := h3
     injection e with e
     injection e with e
     simp only [List.cons.injEq, and_true] at e
     obtain ⟨_, rfl, _, _, _, _, _, _, _, rfl, rfl, _⟩ := e
     have hf := full_new2 k1 k2 k3
     unfold growAt
     go_simp
     exact ⟨(Keep.refl _ _).alloc _, _, _, rfl, hf.more ECp.ok fun k _ h => by rcases h with h | h <;> omega⟩
    obtain ⟨_, _, A10, d10, rfl, _⟩ := hv4.head
    refine growP_nil fun w4 hC hK => ?_
    obtain ⟨_, _, _, f4⟩ : SlShape ECp w4 (fun k => w3.heap.size ≤ k) (.slice A10 1 d10) 1 [d] := hK (4, _) List.mem_cons_self
    change wpList _ _ _ (_ :: _ :: _ :: []) _ _
    have hC' : Ext w3 w4 := hC
    have hO4 := HOW3.out.ext ECp.ok hC'
    have hsrc := f4.more (S' := fun k => w3.heap.size ≤ k ∧ k < w4.heap.size) ECp.ok (fun k h1 h2 => ⟨h2, h1⟩)
    have HC4 := hid hC'
    clear hC hC' hK hv3 hv4 f4 y8 g0 g1 g2 g3 g4 g5 g6 g7 g8 g9 g10 g11
    (try simp only [Act.put, sqa, sqb, sqc])
    refine wpList_own_append (P := Tryd.prog) (E := ECp) (v := .slice A4 ta.length c4) (y := .slice A10 1 d10) w4 rfl (.tmp 38) (.tmp 41) ECp.ok ty_cp ?_ ?_ ?_ hO4 hsrc ?_ ?_ ?_ (by have := HZ3.out; have := HC4.out.size; have := hkz; omega) ?_
    ·rfl
    ·rfl
    ·rfl
    ·exact fun g hg => ⟨fun h => h.2.2 hg, fun h => by have := (HOW.out.lt hg).2; have := HZ3.out; omega⟩
    ·have := HLN.out; simp only [List.length_singleton]; omega
    ·have := HLN.out; simp only [List.length_singleton, maxLen]; omega
    intro v' w5 hown' hk hbk
    obtain ⟨A7, c7, rfl, hl7, hc7⟩ := hown'.shape
    have hz3 := HZ3.out
    have hz4 := HC4.out.size
    have hlt4 : ∀ q, (Value.slice A4 ta.length c4).ownBlock = some q → W5.heap.size ≤ q ∧ q < wr.heap.size := fun q hq => HOW.out.lt hq
    have HB5' := hid ((HB3.out.keep HC4.out id).keep hk (fun e => by have := (hlt4 _ e).1; omega))
    have HK5' := hid ((HK3.out.trans HC4.out fun q _ h => h.elim).trans hk fun q hq e => by have := (hlt4 _ e).1; omega)
    have HO5' := hid (ds_next (wr := wr) (N := w4.heap.size) (lo := W5.heap.size) ECp.ok hown' (by omega) hk.size (fun k h => by omega) hkz (fun g hg => (hlt4 g hg).2) hbk)
    have y8 := HB5'.out.cell 8
    have f8 := HB5'.out.frozen 8
    simp at y8
    clear hown' hk hbk hO4 hsrc HC4 hl7 hc7 hlt4
    generalize hm : (ta ++ [d]).length = m at *
    have hka : Keep (· = w.heap.size) w5 (w5.setCell ⟨w.heap.size, 8, none⟩ (.slice A7 m c7)) := (Keep.refl (· = w.heap.size) w5).set1 8 _
    have HP := hid (And.intro (show Blk (w5.setCell ⟨w.heap.size, 8, none⟩ (.slice A7 m c7)) w.heap.size TENT #[.int .u8 2, .int .u32 c1, .int .u32 c2, U8 x.kind, .int .i64 x.n, .string x.s, .slice Bl x.l.length dl, .slice Bo x.o.length do_, .slice A7 m c7] from HB5'.out.set_ 8 _) (And.intro ((HO5'.out.keep ECp.ok hka (fun q h e => by have := h.1; omega) (fun q h e => by have := (HO5'.out.lt h).1; omega)).more (S' := DS (w5.setCell ⟨w.heap.size, 8, none⟩ (.slice A7 m c7)) W5.heap.size (.slice A7 m c7)) ECp.ok fun q _ h => ⟨h.1, Nat.lt_of_lt_of_le h.2.1 hka.size, h.2.2⟩) (HK5'.out.trans hka fun q _ h => h)))
    clear hka HB5' HO5' HK5'
    (try simp only [Act.put, sqa, sqb, sqc])
    go_wp2_with fail
    refine NoPanic.normal ?_
    go_wp2
    go_roundw
    case rel => exact ⟨j + 1, _, by go_num, by omega, HP.out.1, by rw [HTA.out]; exact HP.out.2.1, HP.out.2.2⟩
    case measure => simp [intOf]; omega
  ·obtain rfl : j = n := by omega
   have hltX : ¬ (j : Int) < j := by omega
   have hta : cs.take j = cs := List.take_of_length_le (by rw [HN.out]; exact Nat.le_refl _)
   rw [hta] at HOW
   have HRr := hid (HR5.out.keep HK.out (by omega))
   have HVr := hid (HV5.out.keep HK.out fun q h e => by have h : W.heap.size ≤ q := h; have := HSZ.out; omega)
   have hsz := HSZ.out
   have hwr := HRr.out.lt
   generalize hys : cs.filter (touchL fs) = ys at *
   obtain ⟨WZ, hWZ⟩ : ∃ WZ, (((((((((wr.setCell ⟨w.heap.size + 1, 0, none⟩ (.int .u8 2)).setCell ⟨w.heap.size + 1, 1, none⟩ (.int .u32 c1)).setCell ⟨w.heap.size + 1, 2, none⟩ (.int .u32 c2)).setCell ⟨w.heap.size + 1, 3, none⟩ (.int .u8 (x.kind.toNat : Int))).setCell ⟨w.heap.size + 1, 4, none⟩ (.int .i64 x.n)).setCell ⟨w.heap.size + 1, 5, none⟩ (.string x.s)).setCell ⟨w.heap.size + 1, 6, none⟩ (.slice Bl x.l.length dl)).setCell ⟨w.heap.size + 1, 7, none⟩ (.slice Bo x.o.length do_)).setCell ⟨w.heap.size + 1, 8, none⟩ (.slice A4 ys.length c4)) = WZ := ⟨_, rfl⟩
   have hkz2 : Keep (· = w.heap.size + 1) wr WZ := by rw [← hWZ]; exact ((((((((((Keep.refl (· = w.heap.size + 1) wr).set1 0 _).set1 1 _).set1 2 _).set1 3 _).set1 4 _).set1 5 _).set1 6 _).set1 7 _).set1 8 _)
   have hbz : Blk WZ (w.heap.size + 1) TENT #[.int .u8 2, .int .u32 c1, .int .u32 c2, U8 x.kind, .int .i64 x.n, .string x.s, .slice Bl x.l.length dl, .slice Bo x.o.length do_, .slice A4 ys.length c4] := by rw [← hWZ]; exact (((((((((HRr.out.set_ 0 (.int .u8 2)).set_ 1 (.int .u32 c1)).set_ 2 (.int .u32 c2)).set_ 3 (.int .u8 (x.kind.toNat : Int))).set_ 4 (.int .i64 x.n)).set_ 5 (.string x.s)).set_ 6 (.slice Bl x.l.length dl)).set_ 7 (.slice Bo x.o.length do_)).set_ 8 (.slice A4 ys.length c4))
   have f0 := HRr.out.frozen 0
   have f1 := HRr.out.frozen 1
   have f2 := HRr.out.frozen 2
   have f3 := HRr.out.frozen 3
   have f4 := HRr.out.frozen 4
   have f5 := HRr.out.frozen 5
   have f6 := HRr.out.frozen 6
   have f7 := HRr.out.frozen 7
   have f8 := HRr.out.frozen 8
   have z0 := HRr.out.cell 0
   have z1 := HRr.out.cell 1
   have z2 := HRr.out.cell 2
   have z3 := HRr.out.cell 3
   have z4 := HRr.out.cell 4
   have z5 := HRr.out.cell 5
   have z6 := HRr.out.cell 6
   have z7 := HRr.out.cell 7
   have z8 := HRr.out.cell 8
   simp at z0 z1 z2 z3 z4 z5 z6 z7 z8
   have HWZ := hid hWZ
   have HBZ := hid hbz
   have HKZ := hid hkz2
   clear hWZ hbz hkz2
   go_wp2
   first | rw [HWZ.out] | (have e := HWZ.out; simp only [show ∀ x : Nat, x + 1 + 1 = x + 2 from fun _ => rfl] at e; rw [e])
   have u0 := HBZ.out.cell 0
   have u1 := HBZ.out.cell 1
   have u2 := HBZ.out.cell 2
   have u3 := HBZ.out.cell 3
   have u4 := HBZ.out.cell 4
   have u5 := HBZ.out.cell 5
   have u6 := HBZ.out.cell 6
   have u7 := HBZ.out.cell 7
   have u8 := HBZ.out.cell 8
   simp at u0 u1 u2 u3 u4 u5 u6 u7 u8
   refine bodyPost_ret (v := .agg #[.int .u8 2, .int .u32 c1, .int .u32 c2, U8 x.kind, .int .i64 x.n, .string x.s, .slice Bl x.l.length dl, .slice Bo x.o.length do_, .slice A4 ys.length c4]) (by simp [results, Tryd.results21, go_sem, u0, u1, u2, u3, u4, u5, u6, u7, u8]) rfl ?_
   exact ⟨_, _, _, rfl, (HVr.out.keep HKZ.out fun q h e => by have h : W.heap.size ≤ q := h; omega).more fun _ _ _ => trivial, (((HOW.out.sl ECp.ok).keep ECp.ok HKZ.out fun q h e => by
    rcases h with h | h
    ·have := h.1; omega
    ·have := (HOW.out.lt h).1; omega).more ECp.ok fun _ _ _ => trivial), (HE5.out.trans HK.out fun q h e => by omega).trans HKZ.out fun q h e => by omega⟩
def EntNo (w : World) (c1 c2 : Int) (x : V) (e : Ending) (w' : World) : Prop := ∃ lv ov, e = .returned (.agg #[.int .u8 3, .int .u32 c1, .int .u32 c2, U8 x.kind, .int .i64 x.n, .string x.s, lv, ov, .slice none 0 0]) ∧
 VAt w' (fun _ => True) (.agg #[U8 x.kind, .int .i64 x.n, .string x.s, lv, ov]) x ∧ Ext w w'
theorem entry_none (w : World) (S S2 S3 : BS) (c1 c2 : Int) (v0 v1 v2 v3 v4 fv : Value) (x : V) (fs : List ByteArray) (hx : VAt w S3 (.agg #[v0, v1, v2, v3, v4]) x) (hxz : x.size ≤ 1000000) (hs : Sl EStr w S2 fv fs) :
  Calls Tryd.prog 21 #[.agg #[.int .u8 3, .int .u32 c1, .int .u32 c2, v0, v1, v2, v3, v4, .slice none 0 0], fv] w (EntNo w c1 c2 x) := by
 obtain ⟨lx, ox, e, hl, hox⟩ := hx
 simp at e
 obtain ⟨rfl, rfl, rfl, rfl, rfl⟩ := e
 obtain ⟨Al, cl, rfl, _⟩ := hl.shape
 obtain ⟨Ao, co, rfl, _⟩ := hox.shape
 obtain ⟨Af, cf, rfl, _⟩ := hs.shape
 obtain ⟨W, hW⟩ : ∃ W, (w.alloc (.cells #[.int .u8 3, .int .u32 c1, .int .u32 c2, U8 x.kind, .int .i64 x.n, .string x.s, .slice Al x.l.length cl, .slice Ao x.o.length co, .slice none 0 0] TENT)).alloc (.cells #[.int .u8 0, .int .u32 0, .int .u32 0, .int .u8 0, .int .i64 0, .string ⟨#[]⟩, .slice none 0 0, .slice none 0 0, .slice none 0 0] TENT) = W := ⟨_, rfl⟩
 have hE : Ext w W := by rw [← hW]; exact ((Keep.refl _ _).alloc _).alloc _
 have hsz : W.heap.size = w.heap.size + 2 := by rw [← hW]; simp
 have hb : Blk W w.heap.size TENT #[.int .u8 3, .int .u32 c1, .int .u32 c2, U8 x.kind, .int .i64 x.n, .string x.s, .slice Al x.l.length cl, .slice Ao x.o.length co, .slice none 0 0] := by rw [← hW]; exact (Blk.new _ _ _).alloc _
 have hr : Blk W (w.heap.size + 1) TENT #[.int .u8 0, .int .u32 0, .int .u32 0, .int .u8 0, .int .i64 0, .string ⟨#[]⟩, .slice none 0 0, .slice none 0 0, .slice none 0 0] := by
  have := Blk.new (w.alloc (.cells #[.int .u8 3, .int .u32 c1, .int .u32 c2, U8 x.kind, .int .i64 x.n, .string x.s, .slice Al x.l.length cl, .slice Ao x.o.length co, .slice none 0 0] TENT)) TENT #[.int .u8 0, .int .u32 0, .int .u32 0, .int .u8 0, .int .i64 0, .string ⟨#[]⟩, .slice none 0 0, .slice none 0 0, .slice none 0 0]
  rw [World.size_alloc, hW] at this
  exact this
 have HX := hid (show VAt W S3 (.agg (vC x Al cl Ao co)) x from ⟨_, _, rfl, hl.ext EVal.ok hE, hox.ext EField.ok hE⟩)
 have HE := hid hE
 have HSZ := hid hsz
 have HB := hid hb
 have HR := hid hr
 have HXZ := hid hxz
 obtain ⟨x0, x1, x2, x3, x4, x5, x6, x7, x8⟩ := blk9 hb
 clear hl hox hs hE hsz hb hr hxz
 go_enter Tryd.func21, Tryd.ntmps21
 go_wp2_with fail
 refine (copy_valT 1000000 x HXZ.out (Nat.le_refl _) _ S3 W HX.out).mono ?_
 rintro e w1 ⟨lv1, ov1, rfl, htv, hE1⟩
 obtain ⟨⟨Bl, dl, rfl⟩, Bo, do_, rfl⟩ := htv.shapes
 have hva := TV_at htv (S := fun q => W.heap.size ≤ q) fun q h _ => h
 have hb1 := HB.out.keep hE1 id
 have hr1 := HR.out.keep hE1 id
 have HB1 := hid hb1
 have HR1 := hid hr1
 have HE1 := hid (HE.out.ext hE1)
 have HVA := hid hva
 have HSZ1 := hid hE1.size
 clear x0 x1 x2 x3 x4 x5 x6 x7 x8 htv hE1 hva hW HX HE
 obtain ⟨x0, x1, x2, x3, x4, x5, x6, x7, x8⟩ := blk9 hb1
 obtain ⟨y0, y1, y2, y3, y4, y5, y6, y7, y8⟩ := blk9 hr1
 have f1 := hb1.frozen
 have f2 := hr1.frozen
 clear hb1 hr1
 obtain ⟨W5, hW5⟩ : ∃ W5, (((((w1.setCell ⟨w.heap.size, 3, none⟩ (.int .u8 (x.kind.toNat : Int))).setCell ⟨w.heap.size, 4, none⟩ (.int .i64 x.n)).setCell ⟨w.heap.size, 5, none⟩ (.string x.s)).setCell ⟨w.heap.size, 6, none⟩ (.slice Bl x.l.length dl)).setCell ⟨w.heap.size, 7, none⟩ (.slice Bo x.o.length do_)).setCell ⟨w.heap.size, 8, none⟩ (.slice none 0 0) = W5 := ⟨_, rfl⟩
 have hk5 : Keep (· = w.heap.size) w1 W5 := by rw [← hW5]; exact ((((((Keep.refl (· = w.heap.size) w1).set1 3 _).set1 4 _).set1 5 _).set1 6 _).set1 7 _).set1 8 _
 have hb5 : Blk W5 w.heap.size TENT #[.int .u8 3, .int .u32 c1, .int .u32 c2, U8 x.kind, .int .i64 x.n, .string x.s, .slice Bl x.l.length dl, .slice Bo x.o.length do_, .slice none 0 0] := by
  rw [← hW5]
  have h1 := (((((HB1.out.set_ 3 (.int .u8 (x.kind.toNat : Int))).set_ 4 (.int .i64 x.n)).set_ 5 (.string x.s)).set_ 6 (.slice Bl x.l.length dl)).set_ 7 (.slice Bo x.o.length do_)).set_ 8 (.slice none 0 0)
  simp only [sqa, sqb, sqc] at h1
  exact h1
 have HV5 := hid (HVA.out.keep hk5 fun q h e => by have h : W.heap.size ≤ q := h; have := HSZ.out; omega)
 have HR5 := hid (HR1.out.keep hk5 (by omega))
 have HE5 := hid (show Ext w W5 from HE1.out.trans hk5 fun q h e => by omega)
 have HB5 := hid hb5
 clear hk5 hb5 HVA HR1 HB1
 go_wp2_with fail
 go_loopw [7, 25] (fun _ i wr => i = .int .i64 0 ∧ wr = W5) (fun _ _ _ => 0)
 case atStart => exact ⟨rfl, by first | rfl | (rw [← hW5])⟩
 case round =>
  obtain ⟨rfl, rfl⟩ := hrel
  clear hW5 x0 x1 x2 x3 x4 x5 x6 x7 x8 y0 y1 y2 y3 y4 y5 y6 y7 y8 f1 f2
  obtain ⟨x0, x1, x2, x3, x4, x5, x6, x7, x8⟩ := blk9 HB5.out
  obtain ⟨y0, y1, y2, y3, y4, y5, y6, y7, y8⟩ := blk9 HR5.out
  have f1 := HB5.out.frozen
  have f2 := HR5.out.frozen
  go_wp2_with fail
  obtain ⟨WZ, hWZ⟩ : ∃ WZ, put9 wr (w.heap.size + 1) (.int .u8 3) (.int .u32 c1) (.int .u32 c2) (U8 x.kind) (.int .i64 x.n) (.string x.s) (.slice Bl x.l.length dl) (.slice Bo x.o.length do_) (.slice none 0 0) = WZ := ⟨_, rfl⟩
  have hbz := put9_blk HR5.out (.int .u8 3) (.int .u32 c1) (.int .u32 c2) (U8 x.kind) (.int .i64 x.n) (.string x.s) (.slice Bl x.l.length dl) (.slice Bo x.o.length do_) (.slice none 0 0)
  have hkz := put9_keep wr (w.heap.size + 1) (.int .u8 3) (.int .u32 c1) (.int .u32 c2) (U8 x.kind) (.int .i64 x.n) (.string x.s) (.slice Bl x.l.length dl) (.slice Bo x.o.length do_) (.slice none 0 0)
  rw [hWZ] at hbz hkz
  have hKZ : Ext w WZ := HE5.out.trans hkz fun k h1 h2 => by omega
  have hVZ := HV5.out.keep hkz fun q h e => by have h : W.heap.size ≤ q := h; have := HSZ.out; omega
  obtain ⟨u0, u1, u2, u3, u4, u5, u6, u7, u8⟩ := blk9 hbz
  change bodyPost _ _ _ _ _ (put9 wr (w.heap.size + 1) (.int .u8 3) (.int .u32 c1) (.int .u32 c2) (U8 x.kind) (.int .i64 x.n) (.string x.s) (.slice Bl x.l.length dl) (.slice Bo x.o.length do_) (.slice none 0 0))
  rw [hWZ]
  refine bodyPost_ret (v := .agg #[.int .u8 3, .int .u32 c1, .int .u32 c2, U8 x.kind, .int .i64 x.n, .string x.s, .slice Bl x.l.length dl, .slice Bo x.o.length do_, .slice none 0 0]) (by simp [results, Tryd.results21, go_sem, u0, u1, u2, u3, u4, u5, u6, u7, u8]) rfl ?_
  exact ⟨_, _, rfl, hVZ.more fun _ _ _ => trivial, hKZ⟩
theorem rsame7_ok (w : World) (S S2 : BS) (u v : Value) (l : List Cp) (h1 : Sl ECp w S u l) (h2 : Sl ECp w S2 v l) :
  Calls Tryd.prog 50 #[u, v] w fun e w' => e = .returned (.bool true) ∧ Ext w w' := by
 obtain ⟨A, c, rfl, hlc, hcm⟩ := h1.shape
 obtain ⟨B, d, rfl, hld, hdm⟩ := h2.shape
 unfold maxLen at hcm hdm
 obtain ⟨n, hn⟩ : ∃ n, l.length = n := ⟨_, rfl⟩
 have HN := hid hn
 rw [hn] at h1 h2 hlc hld ⊢
 have H1 := hid h1
 have H2 := hid h2
 have hnn : ((n : Int) == (n : Int)) = true := by simp
 clear h1 h2 hn
 go_enter Tryd.func50, Tryd.ntmps50
 go_wp2_with fail
 go_loopw [5] (fun i wr => ∃ j : Nat, j ≤ n ∧ i = .int .i64 j ∧ Ext w wr) (fun i _ => n - (intOf i).toNat)
 case atStart => exact ⟨0, by omega, rfl, Keep.refl _ _⟩
 case round =>
  obtain ⟨j, hj, rfl, hE⟩ := hrel
  have HE := hid hE
  by_cases hlt : j < n
  ·have hX : (j : Int) < n := by omega
   have hj' : j < l.length := by rw [HN.out]; exact hlt
   have hS1 := H1.out.ext ECp.ok hE
   have hS2 := H2.out.ext ECp.ok hE
   obtain ⟨b1, o1, c1, rfl, _, _, ⟨pv, lv, ov, rfl, x1, x2, x3⟩, hc1⟩ := hS1.at_ ECp.ok hj'
   obtain ⟨b2, o2, c2, rfl, _, _, ⟨qv, mv, nv, rfl, y1, y2, y3⟩, hc2⟩ := hS2.at_ ECp.ok hj'
   generalize l[j] = x at *
   obtain ⟨Ap, cp, rfl, _⟩ := x1.shape
   obtain ⟨Al, cl, rfl, _⟩ := x2.shape
   obtain ⟨Ao, co, rfl, _⟩ := x3.shape
   obtain ⟨Bp, dp, rfl, _⟩ := y1.shape
   obtain ⟨Bl, dl, rfl, _⟩ := y2.shape
   obtain ⟨Bo, do_, rfl, _⟩ := y3.shape
   have HCX := hid (show CAt wr S (.agg (cC x Ap cp Al cl Ao co)) x from ⟨_, _, _, rfl, x1, x2, x3⟩)
   have HCY := hid (show CAt wr S2 (.agg (cC x Bp dp Bl dl Bo do_)) x from ⟨_, _, _, rfl, y1, y2, y3⟩)
   have e12 : ECp.size = 12 := rfl
   have g0 := hc1 0 _ rfl
   have k0 := hc2 0 _ rfl
   have g1 := hc1 1 _ rfl
   have k1 := hc2 1 _ rfl
   have g2 := hc1 2 _ rfl
   have k2 := hc2 2 _ rfl
   have g3 := hc1 3 _ rfl
   have k3 := hc2 3 _ rfl
   have g4 := hc1 4 _ rfl
   have k4 := hc2 4 _ rfl
   have g5 := hc1 5 _ rfl
   have k5 := hc2 5 _ rfl
   have g6 := hc1 6 _ rfl
   have k6 := hc2 6 _ rfl
   have g7 := hc1 7 _ rfl
   have k7 := hc2 7 _ rfl
   have g8 := hc1 8 _ rfl
   have k8 := hc2 8 _ rfl
   have g9 := hc1 9 _ rfl
   have k9 := hc2 9 _ rfl
   have g10 := hc1 10 _ rfl
   have k10 := hc2 10 _ rfl
   have g11 := hc1 11 _ rfl
   have k11 := hc2 11 _ rfl
   simp only [e12, Nat.add_zero] at g0 g1 g2 g3 g4 g5 g6 g7 g8 g9 g10 g11 k0 k1 k2 k3 k4 k5 k6 k7 k8 k9 k10 k11
   clear hc1 hc2 x1 x2 x3 y1 y2 y3 hS1 hS2 hE
   go_wp2_with fail
   refine wp_region_parts [] [0, 1, 2, 3, 4, 5, 6, 7, 8, 9] [] (specOf [(8, fun v w' => v = .bool true)]) (fun w' => Ext wr w') (stable_cons (fun v w w' h he => h) stable_nil) (stableC_ext _) (by kernel_rfl) (by kernel_rfl) (Keep.drew (Keep.refl _ _)) ?_
   refine pure_nil ?_
   iterate 8
    (try simp only [Act.put, sqa, sqb, sqc])
    refine growP_run rfl rfl rfl ?_
    apply Exists.intro
    refine ⟨fun w' hC hK => ?_, ?_⟩
    ·have g0 := sqw hC g0
     have g1 := sqw hC g1
     have g2 := sqw hC g2
     have g3 := sqw hC g3
     have g4 := sqw hC g4
     have g5 := sqw hC g5
     have g6 := sqw hC g6
     have g7 := sqw hC g7
     have g8 := sqw hC g8
     have g9 := sqw hC g9
     have g10 := sqw hC g10
     have g11 := sqw hC g11
     have k0 := sqw hC k0
     have k1 := sqw hC k1
     have k2 := sqw hC k2
     have k3 := sqw hC k3
     have k4 := sqw hC k4
     have k5 := sqw hC k5
     have k6 := sqw hC k6
     have k7 := sqw hC k7
     have k8 := sqw hC k8
     have k9 := sqw hC k9
     have k10 := sqw hC k10
     have k11 := sqw hC k11
     go_simp
     rfl
   (try simp only [Act.put, sqa, sqb, sqc])
   refine growP_eff rfl rfl rfl (fun w' hC hK => ?_) (fun v8 hv8 => ?_)
   ·unfold growAt
    go_simp
    refine grow_call ((rsame06_yes w' _ _ _ _ x (HCX.out.ext hC) (HCY.out.ext hC)).mono ?_)
    rintro e w'' ⟨rfl, h2⟩
    exact ⟨_, rfl, h2, rfl⟩
   obtain ⟨_, _, rfl⟩ := hv8.head
   iterate 1
    (try simp only [Act.put, sqa, sqb, sqc])
    refine growP_run rfl rfl rfl ?_
    apply Exists.intro
    refine ⟨fun w' hC hK => ?_, ?_⟩
    ·go_simp
     rfl
   refine growP_nil fun w2 hC hK => ?_
   have HC := hid (show Ext wr w2 from hC)
   clear hC hK
   change wpList _ _ _ [] _ _
   (try simp only [Act.put, sqa, sqb, sqc])
   refine NoPanic.normal ?_
   go_wp2
   exact ⟨⟨j + 1, by omega, by go_num, HE.out.ext HC.out⟩, by simp [intOf]; omega⟩
  ·obtain rfl : j = n := by omega
   have hX : ¬ (j : Int) < j := by omega
   go_wp2
   go_ret
   exact ⟨rfl, HE.out⟩
theorem rsame10_kd (kd : Int) (w : World) (S1 S2 S3 S4 : BS) (c1 c2 : Int) (x : V) (cs : List Cp) (lv1 ov1 op1 lv2 ov2 op2 : Value) (h1 : VAt w S1 (.agg #[U8 x.kind, .int .i64 x.n, .string x.s, lv1, ov1]) x) (h2 : VAt w S2 (.agg #[U8 x.kind, .int .i64 x.n, .string x.s, lv2, ov2]) x) (h3 : Sl ECp w S3 op1 cs) (h4 : Sl ECp w S4 op2 cs) :
  Calls Tryd.prog 23 #[.agg #[.int .u8 kd, .int .u32 c1, .int .u32 c2, U8 x.kind, .int .i64 x.n, .string x.s, lv1, ov1, op1], .agg #[.int .u8 kd, .int .u32 c1, .int .u32 c2, U8 x.kind, .int .i64 x.n, .string x.s, lv2, ov2, op2]] w fun e w' => e = .returned (.bool true) ∧ Ext w w' := by
 obtain ⟨lx, ox, e, k1, k2⟩ := h1
 simp at e
 obtain ⟨rfl, rfl⟩ := e
 obtain ⟨ly, oy, e, k3, k4⟩ := h2
 simp at e
 obtain ⟨rfl, rfl⟩ := e
 obtain ⟨Al, cl, rfl, _⟩ := k1.shape
 obtain ⟨Ao, co, rfl, _⟩ := k2.shape
 obtain ⟨Bl, dl, rfl, _⟩ := k3.shape
 obtain ⟨Bo, do_, rfl, _⟩ := k4.shape
 obtain ⟨A, c, rfl, _⟩ := h3.shape
 obtain ⟨B, d, rfl, _⟩ := h4.shape
 obtain ⟨W, hW⟩ : ∃ W, (w.alloc (.cells #[.int .u8 kd, .int .u32 c1, .int .u32 c2, U8 x.kind, .int .i64 x.n, .string x.s, .slice Al x.l.length cl, .slice Ao x.o.length co, .slice A cs.length c] TENT)).alloc (.cells #[.int .u8 kd, .int .u32 c1, .int .u32 c2, U8 x.kind, .int .i64 x.n, .string x.s, .slice Bl x.l.length dl, .slice Bo x.o.length do_, .slice B cs.length d] TENT) = W := ⟨_, rfl⟩
 have hE : Ext w W := by rw [← hW]; exact ((Keep.refl _ _).alloc _).alloc _
 have ha : Blk W w.heap.size TENT #[.int .u8 kd, .int .u32 c1, .int .u32 c2, U8 x.kind, .int .i64 x.n, .string x.s, .slice Al x.l.length cl, .slice Ao x.o.length co, .slice A cs.length c] := by rw [← hW]; exact (Blk.new _ _ _).alloc _
 have hb : Blk W (w.heap.size + 1) TENT #[.int .u8 kd, .int .u32 c1, .int .u32 c2, U8 x.kind, .int .i64 x.n, .string x.s, .slice Bl x.l.length dl, .slice Bo x.o.length do_, .slice B cs.length d] := by
  have := Blk.new (w.alloc (.cells #[.int .u8 kd, .int .u32 c1, .int .u32 c2, U8 x.kind, .int .i64 x.n, .string x.s, .slice Al x.l.length cl, .slice Ao x.o.length co, .slice A cs.length c] TENT)) TENT #[.int .u8 kd, .int .u32 c1, .int .u32 c2, U8 x.kind, .int .i64 x.n, .string x.s, .slice Bl x.l.length dl, .slice Bo x.o.length do_, .slice B cs.length d]
  rw [World.size_alloc, hW] at this
  exact this
 have HV1 := hid (show VAt W S1 (.agg (vC x Al cl Ao co)) x from ⟨_, _, rfl, k1.ext EVal.ok hE, k2.ext EField.ok hE⟩)
 have HV2 := hid (show VAt W S2 (.agg (vC x Bl dl Bo do_)) x from ⟨_, _, rfl, k3.ext EVal.ok hE, k4.ext EField.ok hE⟩)
 have HO1 := hid (h3.ext ECp.ok hE)
 have HO2 := hid (h4.ext ECp.ok hE)
 have HE := hid hE
 have HA := hid ha
 have HB := hid hb
 have e0 : (kd == kd) = true := by simp
 have e1 : (c1 == c1) = true := by simp
 have e2 : (c2 == c2) = true := by simp
 have x0 := ha.cell 0
 have x1 := ha.cell 1
 have x2 := ha.cell 2
 have x3 := ha.cell 3
 have x4 := ha.cell 4
 have x5 := ha.cell 5
 have x6 := ha.cell 6
 have x7 := ha.cell 7
 have x8 := ha.cell 8
 simp at x0 x1 x2 x3 x4 x5 x6 x7 x8
 have y0 := hb.cell 0
 have y1 := hb.cell 1
 have y2 := hb.cell 2
 have y3 := hb.cell 3
 have y4 := hb.cell 4
 have y5 := hb.cell 5
 have y6 := hb.cell 6
 have y7 := hb.cell 7
 have y8 := hb.cell 8
 simp at y0 y1 y2 y3 y4 y5 y6 y7 y8
 clear k1 k2 k3 k4 h3 h4 hE ha hb
 go_enter Tryd.func23, Tryd.ntmps23
 go_wp2_with fail
 refine (same_eq _ x (Nat.le_refl _) _ _ _ _ _ HV1.out HV2.out).mono ?_
 rintro e w2 ⟨rfl, hE2⟩
 have ha := HA.out.keep hE2 id
 have hb := HB.out.keep hE2 id
 have HE2 := hid (HE.out.ext hE2)
 have HO12 := hid (HO1.out.ext ECp.ok hE2)
 have HO22 := hid (HO2.out.ext ECp.ok hE2)
 clear hE2 hW x0 y0 x1 y1 x2 y2 x3 y3 x4 y4 x5 y5 x6 y6 x7 y7 x8 y8
 have x0 := ha.cell 0
 have x1 := ha.cell 1
 have x2 := ha.cell 2
 have x3 := ha.cell 3
 have x4 := ha.cell 4
 have x5 := ha.cell 5
 have x6 := ha.cell 6
 have x7 := ha.cell 7
 have x8 := ha.cell 8
 simp at x0 x1 x2 x3 x4 x5 x6 x7 x8
 have y0 := hb.cell 0
 have y1 := hb.cell 1
 have y2 := hb.cell 2
 have y3 := hb.cell 3
 have y4 := hb.cell 4
 have y5 := hb.cell 5
 have y6 := hb.cell 6
 have y7 := hb.cell 7
 have y8 := hb.cell 8
 simp at y0 y1 y2 y3 y4 y5 y6 y7 y8
 clear ha hb
 go_wp2_with fail
 refine (rsame7_ok _ _ _ _ _ cs HO12.out HO22.out).mono ?_
 rintro e w3 ⟨rfl, hE3⟩
 go_wp2
 go_ret
 exact ⟨rfl, HE2.out.ext hE3⟩
def fiveKeys : List ByteArray := [⟨#[97]⟩, ⟨#[98]⟩, ⟨#[99]⟩, ⟨#[100]⟩, ⟨#[101]⟩]
theorem psnd_five {ks : List ByteArray} {m : Nat} (h : List.Sublist ks (fiveKeys.take m)) : psnd ks = true := by
 have h5 : List.Sublist ks fiveKeys := h.trans (List.take_sublist _ _)
 have hl : ks.length ≤ 5 := h5.length_le
 have hp : List.Pairwise (fun a b => leB b a = false) fiveKeys := by
  unfold fiveKeys leB
  simp only [ByteArray.toList_eq]
  decide
 have hv : ∀ f ∈ fiveKeys, Lib.validD f.data.toList = true := by
  intro f hf
  apply valid_asc
  refine ⟨fun c hc => ?_, ?_⟩
  ·simp only [fiveKeys, List.mem_cons, List.not_mem_nil, or_false] at hf
   rcases hf with rfl | rfl | rfl | rfl | rfl <;> (simp at hc; subst hc; decide)
  ·simp only [fiveKeys, List.mem_cons, List.not_mem_nil, or_false] at hf
   rcases hf with rfl | rfl | rfl | rfl | rfl <;> decide
 have hpk := hp.sublist h5
 rw [psnd_good fun i hi => ?_, decide_eq_true (by omega)]
 have hi1 : ks[i]? = some (ks[i]'hi) := List.getElem?_eq_getElem hi
 have hvi := hv _ (h5.subset (List.getElem_mem hi))
 cases i with
 | zero => rw [badAt_zero hi1, hvi]; rfl
 | succ i =>
  have hi2 : ks[i]? = some (ks[i]'(by omega)) := List.getElem?_eq_getElem (by omega)
  rw [badAt_succ hi1 hi2, hvi, List.pairwise_iff_getElem.1 hpk i (i + 1) (by omega) hi (by omega)]
  rfl
end Go.Proofs.YtggkidnlmaindaaDoor
