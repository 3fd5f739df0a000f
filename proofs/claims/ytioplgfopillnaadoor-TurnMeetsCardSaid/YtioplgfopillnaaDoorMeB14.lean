/- TurnB, VStr: laid together. -/
import Derived.Test.YtioplgfopillnaaDoorMeB13
import Derived.Test.YtioplgfopillnaaDoorMeB7
set_option linter.unusedSimpArgs false
set_option linter.unusedVariables false
set_option maxHeartbeats 25600000
set_option maxRecDepth 20000
namespace Go.Proofs.YtioplgfopillnaaDoor
open Go.RowKit
set_option maxRecDepth 100000 in
theorem plain6_ok (s : ByteArray) (w : World) :
  Calls Tryd.prog 69 #[.string s] w fun e w' => e = .returned (.string (textOf (plainL s))) ∧ Ext w w' := by
 go_enter Tryd.func69, Tryd.ntmps69
 go_wp2_with fail
 go_loopw [3, 4] (fun b i wr => ∃ j : Nat, j ≤ 40 ∧ j ≤ s.size ∧ i = .int .i64 j ∧ Own EU8 wr w.heap.size 5 (fun _ => False) b ((s.data.toList.take j).map (· % 128)) ∧ Ext w wr) (fun _ i _ => 40 - (intOf i).toNat)
 case atStart => exact ⟨0, by omega, by omega, rfl, Own.nil _ _ _ _, Keep.refl _ _⟩
 case round =>
  obtain ⟨j, hj, hjs, rfl, hown, hE⟩ := hrel
  obtain ⟨A, c, rfl, hl, hc⟩ := hown.shape
  have hlen : ((s.data.toList.take j).map (· % 128)).length = j := by
   rw [List.length_map, List.length_take]
   have : s.data.toList.length = s.size := Array.length_toList
   omega
  rw [hlen] at hown ⊢
  have HO := hid hown
  have HE := hid hE
  clear hown hE
  have hstop : ¬ (j < s.size ∧ j < 40) → (s.data.toList.take j).map (· % 128) = plainL s := by
   intro h
   unfold plainL
   rcases Nat.lt_or_ge j 40 with h1 | h1
   ·have h2 : s.data.toList.length = s.size := Array.length_toList
    rw [List.take_of_length_le (by omega), List.take_of_length_le (by omega)]
   ·obtain rfl : j = 40 := by omega
    rfl
  by_cases h1 : j < s.size
  ·by_cases h2 : j < 40
   ·have hnext : (s.data.toList.take j).map (· % 128) ++ [s[j] % 128] = (s.data.toList.take (j + 1)).map (· % 128) := by
     have h3 : s.data.toList.length = s.size := Array.length_toList
     rw [List.take_succ_eq_append_getElem (by omega), List.map_append]
     rfl
    have HX := hid hnext
    have hnew := bytes_new (w := wr) (t := 5) (f := (0, 0)) [s[j] % 128] (by simp [maxLen])
    have hu : [s[j] % 128].map U8 = [Value.int .u8 ((s[j].toNat : Int) % 128)] := by
     simp only [List.map_cons, List.map_nil, U8, UInt8.toNat_mod]
     rfl
    rw [hu] at hnew
    have HV := hid hnew
    have HO2 := hid (HO.out.ext EU8.ok ((Keep.refl (fun _ => False) wr).alloc (.cells [Value.int .u8 ((s[j].toNat : Int) % 128)].toArray 5)))
    have HLN := hid hlen
    generalize (s.data.toList.take j).map (· % 128) = tj at *
    clear hnew hu hnext hstop
    have h1X : (j : Int) < s.size := by omega
    have h2X : (j : Int) < 40 := by omega
    go_wp2_with (at_builtin; refine wpList_append_bytes rfl (.tmp 15) (.tmp 20) ty_u8 rfl rfl rfl HO2.out HV.out ?c1 ?c2 ?c3 ?_)
    case c1 => intro g hg h; have := HO.out.lt (show (Value.slice A j c).ownBlock = some g from hg); omega
    case c2 => simp; omega
    case c3 => have := HE.out.size; simp; omega
    intro A' c' w' h3 h4 h5 h6
    have HO3 := hid h3
    have HE3 := hid (HE.out.trans ((Keep.alloc (Keep.refl (fun k => (Value.slice A j c).ownBlock = some k) wr) _).trans h6 fun k _ e => e) fun k hk e => by have := (HO.out.lt (show (Value.slice A j c).ownBlock = some k from e)).1; omega)
    have hl3 : tj.length + [s[j] % 128].length = j + 1 := by have := HLN.out; simp; omega
    clear h3 h4 h6 HO HO2 HV HE hlen
    go_wp2
    go_roundw
    case rel => exact ⟨j + 1, by omega, by omega, by go_num, by rw [← HX.out]; exact HO3.out, HE3.out⟩
    case measure => simp [intOf]; omega
   ·have hl := hstop (by omega)
    have HC := convert_bytesS (HO.out.sl EU8.ok)
    rw [hl] at HC
    have HE2 := hid HE.out
    clear HO HE hstop hlen hl
    go_wp2
    go_ret
    exact ⟨rfl, HE2.out⟩
  ·have hl := hstop (by omega)
   have HC := convert_bytesS (HO.out.sl EU8.ok)
   rw [hl] at HC
   have HE2 := hid HE.out
   clear HO HE hstop hlen hl
   go_wp2
   go_ret
   exact ⟨rfl, HE2.out⟩
abbrev TACT : Nat := 43
structure Ac where
 path : List UInt8
 kind : UInt8
 i : Int
 j : Int
 n : Int
 s : ByteArray
 v : List Tk
abbrev acCells (a : Ac) (pv vv : Value) : Array Value := #[pv, U8 a.kind, .int .i64 a.i, .int .i64 a.j, .int .i64 a.n, .string a.s, vv]
def AAt (w : World) (S : BS) (u : Value) (a : Ac) : Prop := ∃ pv vv, u = .agg (acCells a pv vv) ∧ BytesS w S pv a.path ∧ Sl ETok w S vv a.v
theorem AAt.ext {w w' : World} {S : BS} {u : Value} {a : Ac} (h : AAt w S u a) (he : Ext w w') : AAt w' S u a := by
 obtain ⟨pv, vv, h1, h2, h3⟩ := h; exact ⟨pv, vv, h1, h2.ext EU8.ok he, h3.ext ETok.ok he⟩
def TextOk (n : Nat) (k : UInt8) (i nn : Int) (s : ByteArray) : Prop :=
 (k = 8 ∧ (∃ q : Nat, i = q ∧ q ≤ n) ∧ nn = 0 ∧ ∃ l : List UInt8, l.length ≤ 40 ∧ (∀ c ∈ l, c.toNat < 128) ∧ s = textOf (120 :: l)) ∨ (k = 9 ∧ (∃ q m : Nat, i = q ∧ q < n ∧ nn = m ∧ 1 ≤ m ∧ q + m ≤ n) ∧ s = ⟨#[]⟩)
def Text6Is (n : Nat) (pv : Value) (w : World) (e : Ending) (w' : World) : Prop :=
 ∃ (k : UInt8) (i nn : Int) (s : ByteArray), e = .returned (.agg #[U8 k, pv, .string ⟨#[]⟩, .int .i64 i, .int .i64 0, .int .i64 nn, U8 0, .int .i64 0, .string ⟨#[]⟩, .slice none 0 0, .slice none 0 0, .string s]) ∧ TextOk n k i nn s ∧ Ext w w'
theorem text6_ok (w : World) (S : BS) (pv av : Value) (a : Ac) (n : Nat) (hn : n ≤ 1000) (ha : AAt w S av a) (hwi : (Lit.int .i64 a.i).wf = true) (hwj : (Lit.int .i64 a.j).wf = true) (hpv : ∃ A n c, pv = .slice A n c) :
  Calls Tryd.prog 42 #[.agg #[.int .u8 0, pv, .string ⟨#[]⟩, .int .i64 0, .int .i64 0, .int .i64 0, .int .u8 0, .int .i64 0, .string ⟨#[]⟩, .slice none 0 0, .slice none 0 0, .string ⟨#[]⟩], av, .int .i64 (n : Int)] w (Text6Is n pv w) := by
 obtain ⟨ap, vv, rfl, hap, hvv⟩ := ha
 obtain ⟨Aa, ca, rfl, _⟩ := hap.shape
 obtain ⟨Av, cv, rfl, _⟩ := hvv.shape
 obtain ⟨Ap, np, cp, rfl⟩ := hpv
 clear hap hvv
 obtain ⟨W, hW⟩ : ∃ W, ((w.alloc (.cells #[.int .u8 0, .slice Ap np cp, .string ⟨#[]⟩, .int .i64 0, .int .i64 0, .int .i64 0, .int .u8 0, .int .i64 0, .string ⟨#[]⟩, .slice none 0 0, .slice none 0 0, .string ⟨#[]⟩] TCMP)).alloc (.cells (acCells a (.slice Aa a.path.length ca) (.slice Av a.v.length cv)) TACT)).alloc (.cells ZCMP TCMP) = W := ⟨_, rfl⟩
 have hE : Ext w W := by rw [← hW]; exact (((Keep.refl _ _).alloc _).alloc _).alloc _
 have hsz : W.heap.size = w.heap.size + 3 := by rw [← hW]; simp
 have hc : Blk W w.heap.size TCMP #[.int .u8 0, .slice Ap np cp, .string ⟨#[]⟩, .int .i64 0, .int .i64 0, .int .i64 0, .int .u8 0, .int .i64 0, .string ⟨#[]⟩, .slice none 0 0, .slice none 0 0, .string ⟨#[]⟩] := by rw [← hW]; exact ((Blk.new _ _ _).alloc _).alloc _
 have hb : Blk W (w.heap.size + 1) TACT (acCells a (.slice Aa a.path.length ca) (.slice Av a.v.length cv)) := by
  have := (Blk.new (w.alloc (.cells #[.int .u8 0, .slice Ap np cp, .string ⟨#[]⟩, .int .i64 0, .int .i64 0, .int .i64 0, .int .u8 0, .int .i64 0, .string ⟨#[]⟩, .slice none 0 0, .slice none 0 0, .string ⟨#[]⟩] TCMP)) TACT (acCells a (.slice Aa a.path.length ca) (.slice Av a.v.length cv))).alloc (.cells ZCMP TCMP)
  rw [World.size_alloc, hW] at this
  exact this
 have hr : Blk W (w.heap.size + 2) TCMP ZCMP := by
  have := Blk.new ((w.alloc (.cells #[.int .u8 0, .slice Ap np cp, .string ⟨#[]⟩, .int .i64 0, .int .i64 0, .int .i64 0, .int .u8 0, .int .i64 0, .string ⟨#[]⟩, .slice none 0 0, .slice none 0 0, .string ⟨#[]⟩] TCMP)).alloc (.cells (acCells a (.slice Aa a.path.length ca) (.slice Av a.v.length cv)) TACT)) TCMP ZCMP
  rw [World.size_alloc, World.size_alloc, hW] at this
  exact this
 obtain ⟨i0, hi0, hi0m⟩ := run_max0 a.i hwi
 obtain ⟨j0, hj0, hj0m⟩ := run_max0 a.j hwj
 have b1 := hb.cell 1
 have b2 := hb.cell 2
 have b3 := hb.cell 3
 have b5 := hb.cell 5
 have f0 := hc.frozen 0
 have f3 := hc.frozen 3
 have c0 := hc.cell 0
 have c3 := hc.cell 3
 simp at b1 b2 b3 b5 c0 c3
 have HC := hid hc
 have HB := hid hb
 have HR := hid hr
 have HE := hid hE
 have hQ : ((i0 : Int)).tmod ((n : Int) + 1) = ((i0 % (n + 1) : Nat) : Int) := by rw [← Int.natCast_succ, ← Int.ofNat_tmod]
 obtain ⟨q, hq⟩ : ∃ q, i0 % (n + 1) = q := ⟨_, rfl⟩
 have hqn : q ≤ n := by have : i0 % (n + 1) < n + 1 := Nat.mod_lt _ (by omega); omega
 rw [hq] at hQ
 clear hc hb hr hE
 go_enter Tryd.func42, Tryd.ntmps42
 go_wp2_with fail
 obtain ⟨X1, hX1⟩ : ∃ X1, (W.setCell ⟨w.heap.size, 0, none⟩ (.int .u8 8)).setCell ⟨w.heap.size, 3, none⟩ (.int .i64 (q : Int)) = X1 := ⟨_, rfl⟩
 have hk1 : Keep (· = w.heap.size) W X1 := by rw [← hX1]; exact ((Keep.refl (· = w.heap.size) W).set1 0 _).set1 3 _
 have hx1 : Blk X1 w.heap.size TCMP #[.int .u8 8, .slice Ap np cp, .string ⟨#[]⟩, .int .i64 (q : Int), .int .i64 0, .int .i64 0, .int .u8 0, .int .i64 0, .string ⟨#[]⟩, .slice none 0 0, .slice none 0 0, .string ⟨#[]⟩] := by
  rw [← hX1]; exact (HC.out.set_ 0 (.int .u8 8)).set_ 3 (.int .i64 (q : Int))
 rw [hX1]
 have HX1 := hid hx1
 have HB1 := hid (HB.out.keep hk1 (by omega))
 have HR1 := hid (HR.out.keep hk1 (by omega))
 have HE1 := hid (HE.out.trans hk1 fun k hk e => by omega)
 clear hX1 hk1 hx1 b1 b2 b3 b5 c0 c3 f0 f3
 refine (plain6_ok a.s X1).mono ?_
 rintro e X2 ⟨rfl, hE2⟩
 obtain ⟨l, hl⟩ : ∃ l, plainL a.s = l := ⟨_, rfl⟩
 have HL := hid (show l.length ≤ 40 ∧ ∀ c ∈ l, c.toNat < 128 from by
  rw [← hl]
  refine ⟨plain_len _, fun c hc => ?_⟩
  exact (plain_asc a.s).1 c (by simpa [textOf] using hc))
 rw [hl]
 clear hl
 replace HX1 := hid (HX1.out.keep hE2 id)
 replace HB1 := hid (HB1.out.keep hE2 id)
 replace HR1 := hid (HR1.out.keep hE2 id)
 replace HE1 := hid (HE1.out.ext hE2)
 clear hE2
 have hadd : ∀ w' : World, (Op.stringOp .add (⟨#[120]⟩ : ByteArray) (textOf l)).run Tryd.prog w' = .ok (.string (textOf (120 :: l))) w' := fun w' => by
  rw [run_string_add_sum w' _ _ (by have := HL.out.1; simp [textOf, ByteArray.size]; omega)]
  congr 3
 obtain ⟨SS, hSS⟩ : ∃ SS, textOf (120 :: l) = SS := ⟨_, rfl⟩
 rw [hSS] at hadd
 have HSS := hid hSS
 have b1 := HB1.out.cell 1
 have b2 := HB1.out.cell 2
 have b3 := HB1.out.cell 3
 have b5 := HB1.out.cell 5
 have c0 := HX1.out.cell 0
 have c1 := HX1.out.cell 1
 have c2 := HX1.out.cell 2
 have c3 := HX1.out.cell 3
 have c4 := HX1.out.cell 4
 have c5 := HX1.out.cell 5
 have c6 := HX1.out.cell 6
 have c7 := HX1.out.cell 7
 have c8 := HX1.out.cell 8
 have c9 := HX1.out.cell 9
 have c10 := HX1.out.cell 10
 have c11 := HX1.out.cell 11
 obtain ⟨f0, f1, f2, f3, f4, f5, f6, f7, f8, f9, f10, f11⟩ := sqf12 HX1.out
 obtain ⟨d0, d1, d2, d3, d4, d5, d6, d7, d8, d9, d10, d11⟩ := sq12 HR1.out
 obtain ⟨g0, g1, g2, g3, g4, g5, g6, g7, g8, g9, g10, g11⟩ := sqf12 HR1.out
 simp at b1 b2 b3 b5 c0 c1 c2 c3 c4 c5 c6 c7 c8 c9 c10 c11
 clear hSS
 obtain ⟨r2, hr2⟩ : ∃ r2, a.kind.toNat % 2 = r2 := ⟨_, rfl⟩
 have hkz : ((a.kind.toNat : Int)).tmod 2 = (r2 : Int) := by rw [Int.tmod_eq_emod_of_nonneg (by omega)]; omega
 have hkz2 : (a.kind.toNat : Int) % 2 = (r2 : Int) := by omega
 by_cases hpos : 0 < n ∧ r2 = 0
 ·obtain ⟨hpos, rfl⟩ := hpos
  have hX : (0 : Int) < (n : Int) := by omega
  have hQ2 : ((i0 : Int)).tmod (n : Int) = ((i0 % n : Nat) : Int) := by rw [← Int.ofNat_tmod]
  obtain ⟨q2, hq2⟩ : ∃ q2, i0 % n = q2 := ⟨_, rfl⟩
  have hq2n : q2 < n := by have := Nat.mod_lt i0 hpos; omega
  rw [hq2] at hQ2
  obtain ⟨m2, hm2⟩ : ∃ m2, j0 % (n - q2) = m2 := ⟨_, rfl⟩
  have hm2n : m2 < n - q2 := by have : j0 % (n - q2) < n - q2 := Nat.mod_lt _ (by omega); omega
  have hQ3 : ((j0 : Int)).tmod ((n : Int) - (q2 : Int)) = (m2 : Int) := by
   rw [← hm2, show (n : Int) - (q2 : Int) = ((n - q2 : Nat) : Int) from by omega, ← Int.ofNat_tmod]
  clear hr2 hq2 hm2
  have hnz : ¬ ((n : Int) - (q2 : Int) = 0) := by omega
  have hnz2 : ¬ (n : Int) = 0 := by omega
  have HF := hid (show Ext w (((((((((((((((((X2.setCell ⟨w.heap.size, 11, none⟩ (.string SS)).setCell ⟨w.heap.size, 0, none⟩ (.int .u8 9)).setCell ⟨w.heap.size, 11, none⟩ (.string ⟨#[]⟩)).setCell ⟨w.heap.size, 3, none⟩ (.int .i64 (q2 : Int))).setCell ⟨w.heap.size, 5, none⟩ (.int .i64 (1 + (m2 : Int)))).setCell ⟨w.heap.size + 1 + 1, 0, none⟩ (.int .u8 9)).setCell ⟨w.heap.size + 1 + 1, 1, none⟩ (.slice Ap np cp)).setCell ⟨w.heap.size + 1 + 1, 2, none⟩ (.string ⟨#[]⟩)).setCell ⟨w.heap.size + 1 + 1, 3, none⟩ (.int .i64 (q2 : Int))).setCell ⟨w.heap.size + 1 + 1, 4, none⟩ (.int .i64 0)).setCell ⟨w.heap.size + 1 + 1, 5, none⟩ (.int .i64 (1 + (m2 : Int)))).setCell ⟨w.heap.size + 1 + 1, 6, none⟩ (.int .u8 0)).setCell ⟨w.heap.size + 1 + 1, 7, none⟩ (.int .i64 0)).setCell ⟨w.heap.size + 1 + 1, 8, none⟩ (.string ⟨#[]⟩)).setCell ⟨w.heap.size + 1 + 1, 9, none⟩ (.slice none 0 0)).setCell ⟨w.heap.size + 1 + 1, 10, none⟩ (.slice none 0 0)).setCell ⟨w.heap.size + 1 + 1, 11, none⟩ (.string ⟨#[]⟩)) from HE1.out.trans ((((((((((((((((((Keep.refl (fun k => w.heap.size ≤ k) X2).setAt (fun _ => by omega) _ _).setAt (fun _ => by omega) _ _).setAt (fun _ => by omega) _ _).setAt (fun _ => by omega) _ _).setAt (fun _ => by omega) _ _).setAt (fun _ => by omega) _ _).setAt (fun _ => by omega) _ _).setAt (fun _ => by omega) _ _).setAt (fun _ => by omega) _ _).setAt (fun _ => by omega) _ _).setAt (fun _ => by omega) _ _).setAt (fun _ => by omega) _ _).setAt (fun _ => by omega) _ _).setAt (fun _ => by omega) _ _).setAt (fun _ => by omega) _ _).setAt (fun _ => by omega) _ _).setAt (fun _ => by omega) _ _) fun k hk e => by omega)
  go_wp2
  refine bodyPost_ret (v := .agg #[U8 9, .slice Ap np cp, .string ⟨#[]⟩, .int .i64 (q2 : Int), .int .i64 0, .int .i64 (1 + (m2 : Int)), U8 0, .int .i64 0, .string ⟨#[]⟩, .slice none 0 0, .slice none 0 0, .string ⟨#[]⟩]) (by simp [results, Tryd.results42, go_sem, d0, d1, d2, d3, d4, d5, d6, d7, d8, d9, d10, d11]) rfl ⟨9, (q2 : Int), (1 + (m2 : Int)), ⟨#[]⟩, rfl, .inr ⟨rfl, ⟨q2, 1 + m2, rfl, hq2n, by omega, by omega, by omega⟩, rfl⟩, HF.out⟩
 ·have hcase : n = 0 ∨ (0 < n ∧ r2 = 1) := by
   have : r2 < 2 := by rw [← hr2]; exact Nat.mod_lt _ (by decide)
   omega
  have HOK := hid (show TextOk n 8 (q : Int) 0 SS from .inl ⟨rfl, ⟨q, rfl, hqn⟩, rfl, l, HL.out.1, HL.out.2, HSS.out.symm⟩)
  rcases hcase with h0 | ⟨h0, h1⟩
  ·have hX : ¬ (0 : Int) < (n : Int) := by omega
   clear hr2 hpos
   have HF := hid (show Ext w (((((((((((((X2.setCell ⟨w.heap.size, 11, none⟩ (.string SS)).setCell ⟨w.heap.size + 1 + 1, 0, none⟩ (.int .u8 8)).setCell ⟨w.heap.size + 1 + 1, 1, none⟩ (.slice Ap np cp)).setCell ⟨w.heap.size + 1 + 1, 2, none⟩ (.string ⟨#[]⟩)).setCell ⟨w.heap.size + 1 + 1, 3, none⟩ (.int .i64 (q : Int))).setCell ⟨w.heap.size + 1 + 1, 4, none⟩ (.int .i64 0)).setCell ⟨w.heap.size + 1 + 1, 5, none⟩ (.int .i64 0)).setCell ⟨w.heap.size + 1 + 1, 6, none⟩ (.int .u8 0)).setCell ⟨w.heap.size + 1 + 1, 7, none⟩ (.int .i64 0)).setCell ⟨w.heap.size + 1 + 1, 8, none⟩ (.string ⟨#[]⟩)).setCell ⟨w.heap.size + 1 + 1, 9, none⟩ (.slice none 0 0)).setCell ⟨w.heap.size + 1 + 1, 10, none⟩ (.slice none 0 0)).setCell ⟨w.heap.size + 1 + 1, 11, none⟩ (.string SS)) from HE1.out.trans ((((((((((((((Keep.refl (fun k => w.heap.size ≤ k) X2).setAt (fun _ => by omega) _ _).setAt (fun _ => by omega) _ _).setAt (fun _ => by omega) _ _).setAt (fun _ => by omega) _ _).setAt (fun _ => by omega) _ _).setAt (fun _ => by omega) _ _).setAt (fun _ => by omega) _ _).setAt (fun _ => by omega) _ _).setAt (fun _ => by omega) _ _).setAt (fun _ => by omega) _ _).setAt (fun _ => by omega) _ _).setAt (fun _ => by omega) _ _).setAt (fun _ => by omega) _ _) fun k hk e => by omega)
   go_wp2
   refine bodyPost_ret (v := .agg #[U8 8, .slice Ap np cp, .string ⟨#[]⟩, .int .i64 (q : Int), .int .i64 0, .int .i64 0, U8 0, .int .i64 0, .string ⟨#[]⟩, .slice none 0 0, .slice none 0 0, .string SS]) (by simp [results, Tryd.results42, go_sem, d0, d1, d2, d3, d4, d5, d6, d7, d8, d9, d10, d11]) rfl ⟨8, (q : Int), 0, SS, rfl, HOK.out, HF.out⟩
  ·have hX : (0 : Int) < (n : Int) := by omega
   subst h1
   clear hr2 hpos
   have HF := hid (show Ext w (((((((((((((X2.setCell ⟨w.heap.size, 11, none⟩ (.string SS)).setCell ⟨w.heap.size + 1 + 1, 0, none⟩ (.int .u8 8)).setCell ⟨w.heap.size + 1 + 1, 1, none⟩ (.slice Ap np cp)).setCell ⟨w.heap.size + 1 + 1, 2, none⟩ (.string ⟨#[]⟩)).setCell ⟨w.heap.size + 1 + 1, 3, none⟩ (.int .i64 (q : Int))).setCell ⟨w.heap.size + 1 + 1, 4, none⟩ (.int .i64 0)).setCell ⟨w.heap.size + 1 + 1, 5, none⟩ (.int .i64 0)).setCell ⟨w.heap.size + 1 + 1, 6, none⟩ (.int .u8 0)).setCell ⟨w.heap.size + 1 + 1, 7, none⟩ (.int .i64 0)).setCell ⟨w.heap.size + 1 + 1, 8, none⟩ (.string ⟨#[]⟩)).setCell ⟨w.heap.size + 1 + 1, 9, none⟩ (.slice none 0 0)).setCell ⟨w.heap.size + 1 + 1, 10, none⟩ (.slice none 0 0)).setCell ⟨w.heap.size + 1 + 1, 11, none⟩ (.string SS)) from HE1.out.trans ((((((((((((((Keep.refl (fun k => w.heap.size ≤ k) X2).setAt (fun _ => by omega) _ _).setAt (fun _ => by omega) _ _).setAt (fun _ => by omega) _ _).setAt (fun _ => by omega) _ _).setAt (fun _ => by omega) _ _).setAt (fun _ => by omega) _ _).setAt (fun _ => by omega) _ _).setAt (fun _ => by omega) _ _).setAt (fun _ => by omega) _ _).setAt (fun _ => by omega) _ _).setAt (fun _ => by omega) _ _).setAt (fun _ => by omega) _ _).setAt (fun _ => by omega) _ _) fun k hk e => by omega)
   go_wp2
   refine bodyPost_ret (v := .agg #[U8 8, .slice Ap np cp, .string ⟨#[]⟩, .int .i64 (q : Int), .int .i64 0, .int .i64 0, U8 0, .int .i64 0, .string ⟨#[]⟩, .slice none 0 0, .slice none 0 0, .string SS]) (by simp [results, Tryd.results42, go_sem, d0, d1, d2, d3, d4, d5, d6, d7, d8, d9, d10, d11]) rfl ⟨8, (q : Int), 0, SS, rfl, HOK.out, HF.out⟩
mutual
def VStr (R : Nat) : V → Prop
 | .mk _ _ s l o => s.size ≤ R ∧ VStrs R l ∧ FStrs R o
def VStrs (R : Nat) : List V → Prop
 | [] => True
 | v :: vs => VStr R v ∧ VStrs R vs
def FStr (R : Nat) : F → Prop
 | .mk k v => k.size ≤ R ∧ VStr R v
def FStrs (R : Nat) : List F → Prop
 | [] => True
 | f :: fs => FStr R f ∧ FStrs R fs
end
theorem VStr_iff (R : Nat) (v : V) : VStr R v ↔ v.s.size ≤ R ∧ VStrs R v.l ∧ FStrs R v.o := by cases v; rw [VStr]; exact Iff.rfl
theorem FStr_iff (R : Nat) (f : F) : FStr R f ↔ f.key.size ≤ R ∧ VStr R f.v := by cases f; rw [FStr]; exact Iff.rfl
theorem VStrs_iff (R : Nat) : ∀ (l : List V), VStrs R l ↔ ∀ x ∈ l, VStr R x
 | [] => by simp [VStrs]
 | v :: vs => by rw [VStrs, VStrs_iff R vs]; simp
theorem FStrs_iff (R : Nat) : ∀ (l : List F), FStrs R l ↔ ∀ x ∈ l, FStr R x
 | [] => by simp [FStrs]
 | v :: vs => by rw [FStrs, FStrs_iff R vs]; simp
theorem VStr.s {R : Nat} {x : V} (h : VStr R x) : x.s.size ≤ R := ((VStr_iff R x).1 h).1
theorem VStr.l {R : Nat} {x y : V} (h : VStr R x) (hy : y ∈ x.l) : VStr R y := (VStrs_iff R _).1 ((VStr_iff R x).1 h).2.1 y hy
theorem VStr.o {R : Nat} {x : V} {f : F} (h : VStr R x) (hy : f ∈ x.o) : f.key.size ≤ R ∧ VStr R f.v := (FStr_iff R f).1 ((FStrs_iff R _).1 ((VStr_iff R x).1 h).2.2 f hy)
def StrIs (ts : List Tk) (x : V) : Prop := ∀ R, (∀ t ∈ ts, t.s.size ≤ R) → VStr R x
def StrV (ts : List Tk) (xs : List V) : Prop := ∀ x ∈ xs, StrIs ts x
def StrF (ts : List Tk) (xs : List F) : Prop := ∀ f ∈ xs, (∀ R, (∀ t ∈ ts, t.s.size ≤ R) → f.key.size ≤ R) ∧ StrIs ts f.v
theorem StrV.nil (ts : List Tk) : StrV ts [] := fun x h => by simp at h
theorem StrF.nil (ts : List Tk) : StrF ts [] := fun x h => by simp at h
theorem StrIs.sub {ts ts' : List Tk} {x : V} (h : StrIs ts x) (hs : ∀ t ∈ ts, t ∈ ts') : StrIs ts' x := fun R hR => h R fun t ht => hR t (hs t ht)
theorem StrIs.key {ts : List Tk} {x : V} (h : StrIs ts x) : ∀ R, (∀ t ∈ ts, t.s.size ≤ R) → x.s.size ≤ R := fun R hR => (h R hR).s
mutual
theorem SV.str : ∀ (v : V), SV v → VStr 300 v
 | .mk k n s l o, h => by
  rw [SV] at h
  rw [VStr]
  refine ⟨?_, SVs.str l h.2.1, SFs.str o h.2.2.1⟩
  rcases h.1 with h | h | h | h | h | h
  ·rw [h.2.2.1]; decide
  ·rw [h.2.2.1]; decide
  ·rw [h.2.1]; decide
  ·exact h.2.2.1.2
  ·rw [h.2.2.1]; decide
  ·rw [h.2.2.1]; decide
theorem SVs.str : ∀ (l : List V), SVs l → VStrs 300 l
 | [], _ => by rw [VStrs]; trivial
 | v :: vs, h => by rw [SVs] at h; rw [VStrs]; exact ⟨SV.str v h.1, SVs.str vs h.2⟩
theorem SF.str : ∀ (f : F), SF f → FStr 300 f
 | .mk k v, h => by rw [SF] at h; rw [FStr]; exact ⟨h.1.2, SV.str v h.2⟩
theorem SFs.str : ∀ (l : List F), SFs l → FStrs 300 l
 | [], _ => by rw [FStrs]; trivial
 | v :: vs, h => by rw [SFs] at h; rw [FStrs]; exact ⟨SF.str v h.1, SFs.str vs h.2⟩
end
mutual
def V.weight : V → Nat
 | .mk _ _ s l o => 1 + s.size + (V.weights l + F.weights o)
def V.weights : List V → Nat
 | [] => 0
 | v :: vs => v.weight + V.weights vs
def F.weight : F → Nat
 | .mk k v => k.size + v.weight
def F.weights : List F → Nat
 | [] => 0
 | f :: fs => f.weight + F.weights fs
end
mutual
def V.deep : V → Nat
 | .mk _ _ _ l o => max (V.deeps l) (F.deeps o)
def V.deeps : List V → Nat
 | [] => 0
 | v :: vs => max (v.deep + 1) (V.deeps vs)
def F.deep : F → Nat
 | .mk _ v => v.deep + 1
def F.deeps : List F → Nat
 | [] => 0
 | f :: fs => max f.deep (F.deeps fs)
end
theorem V.weight_eq (v : V) : v.weight = 1 + v.s.size + (V.weights v.l + F.weights v.o) := by cases v; rw [V.weight]; rfl
theorem F.weight_eq (f : F) : f.weight = f.key.size + f.v.weight := by cases f; rw [F.weight]; rfl
theorem V.deep_eq (v : V) : v.deep = max (V.deeps v.l) (F.deeps v.o) := by cases v; rw [V.deep]; rfl
theorem F.deep_eq (f : F) : f.deep = f.v.deep + 1 := by cases f; rw [F.deep]; rfl
theorem V.weights_append : ∀ a b : List V, V.weights (a ++ b) = V.weights a + V.weights b
 | [], b => by simp [V.weights]
 | v :: vs, b => by rw [List.cons_append, V.weights, V.weights, V.weights_append vs b]; omega
theorem F.weights_append : ∀ a b : List F, F.weights (a ++ b) = F.weights a + F.weights b
 | [], b => by simp [F.weights]
 | v :: vs, b => by rw [List.cons_append, F.weights, F.weights, F.weights_append vs b]; omega
theorem V.deeps_append : ∀ a b : List V, V.deeps (a ++ b) = max (V.deeps a) (V.deeps b)
 | [], b => by simp [V.deeps]
 | v :: vs, b => by rw [List.cons_append, V.deeps, V.deeps, V.deeps_append vs b]; omega
theorem F.deeps_append : ∀ a b : List F, F.deeps (a ++ b) = max (F.deeps a) (F.deeps b)
 | [], b => by simp [F.deeps]
 | v :: vs, b => by rw [List.cons_append, F.deeps, F.deeps, F.deeps_append vs b]; omega
theorem V.weights_one (v : V) : V.weights [v] = v.weight := by simp [V.weights]
theorem F.weights_one (v : F) : F.weights [v] = v.weight := by simp [F.weights]
theorem V.deeps_one (v : V) : V.deeps [v] = v.deep + 1 := by simp [V.deeps]
theorem F.deeps_one (v : F) : F.deeps [v] = v.deep := by simp [F.deeps]
end Go.Proofs.YtioplgfopillnaaDoor
