/- RdrC, SnapC, SnapE: laid together. -/
import Derived.Test.YtihaliffcobacaaGreatDoorSbB23
import Derived.Test.YtihaliffcobacaaGreatDoorSbB14
import Derived.Recover
import Derived.Test.YtihaliffcobacaaGreatDoorSbB22
import Derived.Test.YtihaliffcobacaaGreatDoorSbB2
import Derived.Test.YtihaliffcobacaaGreatDoorSbB10
set_option linter.unusedSimpArgs false
set_option linter.unusedVariables false
set_option maxHeartbeats 25600000
set_option maxRecDepth 20000
namespace Go.Proofs.YtihaliffcobacaaGreatDoor
open Go.RowKit
theorem wholeD_ok (a b c : Value) (w : World) : CallsD Tryz.prog 107 #[a, b, c] .returning w fun e u' w' => e = .returned (.tuple #[]) ∧ u' = .returning ∧ w' = w := by
 refine callsD_of_wpS Tryz.func107 rfl fun c₀ cs hu => ?_
 apply wpS_seq
 apply wpS_region
 simp [wpOpsS, go_sem, recoverD, hu, Tryz.ntmps107, Exit.thenS]
 refine wpS_of_wp ?_
 go_wp2
 cases c₀
 simp_all [bodyPostS, results, Tryz.results107]
abbrev pvF : Value := .func (.func 86) #[] #[]
abbrev pwF : Value := .func (.func 56) #[] #[]
def BackIs (w : World) (x : V) (e : Ending) (w' : World) : Prop := ∃ u, e = .returned (.tuple #[u, .int .u16 0]) ∧ VAt w' (fun q => w.heap.size ≤ q) u x ∧ Ext w w'
theorem equal_ok (w : World) (S S2 : BS) (u v : Value) (l : List UInt8) (hu : BytesS w S u l) (hv : BytesS w S2 v l) :
  Calls Tryz.prog 108 #[u, v] w fun e w' => e = .returned (.bool true) ∧ w = w' := by
 have c1 := convert_bytesS hu
 have c2 := convert_bytesS hv
 clear hu hv
 go_enter Tryz.func108, Tryz.ntmps108
 go_wp2
 go_ret
 exact ⟨by simp, rfl⟩
theorem backV_can {x : V} (h : lightB x = true) (hn : NAll N64 x) : Can x ∧ x.deep ≤ 16 ∧ (encV x).length ≤ 260000 := by
 have hw := light_weight h
 have h13 := encV_le13 x
 have h2 := h
 unfold lightB at h2
 simp at h2
 exact ⟨snd_can x h2.1 hn (by omega), h2.2.1, by omega⟩
set_option maxRecDepth 100000 in
theorem whole_ok (w0 : World) (hva : ValAny w0) (x : V) (hx : lightB x = true) (hn : NAll N64 x) (hwi : Wide x) (hlen : (encV x).length ≤ 60000) (w : World) (h0 : Ext w0 w) (S0 : BS) (bv : Value) (hb : BytesS w S0 bv (encV x)) :
  Calls Tryz.prog 85 #[bv, pvF, pwF] w (BackIs w x) := by
 have hmf : ∀ (fn : Fn) (first cap : Array Value) (w : World), (Instr.makeFunc fn first cap).run Tryz.prog w = .ok (.func fn first cap) w := fun _ _ _ _ => rfl
 obtain ⟨hcan, hdeep, _⟩ := backV_can hx hn
 have hb := hb.more (S' := fun k => k < w.heap.size) EU8.ok fun k h _ => h
 obtain ⟨A, c, rfl, hlc, hcm⟩ := hb.shape
 obtain ⟨n, hnl⟩ : ∃ n, (encV x).length = n := ⟨_, rfl⟩
 have HNL := hid hnl
 have HVA := hid hva
 have HWI := hid hwi
 have H0 := hid h0
 have HCN := hid hcan
 have HX := hid hx
 have HB := hid hb
 rw [hnl] at HB hlen ⊢
 clear hb hlc hcm hnl hva hwi hn hx hcan h0
 go_enter_defers Tryz.func85, Tryz.ntmps85
 go_wp2_with fail
 obtain ⟨W0, hW0⟩ : ∃ W0, (((w.alloc (.cells #[.int .u8 0, .int .i64 0, .string ⟨#[]⟩, .slice none 0 0, .slice none 0 0] TVAL)).alloc (.cells #[.int .u16 0] 38)).alloc (.cells #[.int .u8 0, .int .i64 0, .string ⟨#[]⟩, .slice none 0 0, .slice none 0 0] TVAL)).alloc (.cells #[.slice A n c, .int .i64 0] TRDR) = W0 := ⟨_, rfl⟩
 have hE0 : Ext w W0 := by rw [← hW0]; exact ((((Keep.refl _ _).alloc _).alloc _).alloc _).alloc _
 have hA : Blk W0 w.heap.size TVAL #[.int .u8 0, .int .i64 0, .string ⟨#[]⟩, .slice none 0 0, .slice none 0 0] := by rw [← hW0]; exact (((Blk.new _ _ _).alloc _).alloc _).alloc _
 have hB : Blk W0 (w.heap.size + 1) 38 #[.int .u16 0] := by
  have := ((Blk.new (w.alloc (.cells #[.int .u8 0, .int .i64 0, .string ⟨#[]⟩, .slice none 0 0, .slice none 0 0] TVAL)) 38 #[.int .u16 0]).alloc (.cells #[.int .u8 0, .int .i64 0, .string ⟨#[]⟩, .slice none 0 0, .slice none 0 0] TVAL)).alloc (.cells #[.slice A n c, .int .i64 0] TRDR)
  rw [World.size_alloc] at this
  rw [← hW0]; exact this
 have hD : Blk W0 (w.heap.size + 1 + 1 + 1) TRDR #[.slice A n c, .int .i64 0] := by
  have := Blk.new (((w.alloc (.cells #[.int .u8 0, .int .i64 0, .string ⟨#[]⟩, .slice none 0 0, .slice none 0 0] TVAL)).alloc (.cells #[.int .u16 0] 38)).alloc (.cells #[.int .u8 0, .int .i64 0, .string ⟨#[]⟩, .slice none 0 0, .slice none 0 0] TVAL)) TRDR #[.slice A n c, .int .i64 0]
  rw [World.size_alloc, World.size_alloc, World.size_alloc] at this
  rw [← hW0]; exact this
 have hR : RdrAt W0 (fun k => k < w.heap.size) (w.heap.size + 1 + 1 + 1) 0 (encV x ++ []) := ⟨_, hD, by rw [List.append_nil]; exact HB.out.ext EU8.ok hE0, by show ¬ _ < _; omega⟩
 have HA := hid hA
 have HBE := hid hB
 have HE0 := hid hE0
 have hsz0 : w.heap.size + 1 + 1 + 1 < W0.heap.size := hD.lt
 change Calls _ _ _ ((((w.alloc (.cells #[.int .u8 0, .int .i64 0, .string ⟨#[]⟩, .slice none 0 0, .slice none 0 0] TVAL)).alloc (.cells #[.int .u16 0] 38)).alloc (.cells #[.int .u8 0, .int .i64 0, .string ⟨#[]⟩, .slice none 0 0, .slice none 0 0] TVAL)).alloc (.cells #[.slice A n c, .int .i64 0] TRDR)) _
 rw [hW0]
 refine (pvread_ok x.size x (Nat.le_refl _) HCN.out W0 _ _ 0 [] hR (fun q hq => by have : q < w.heap.size := hq; omega) (by omega) (by omega) (by rw [List.append_nil, HNL.out]; omega)).mono ?_
 clear hW0 hE0 hA hB hD hR
 rintro e w1 ⟨u, rfl, hu, _, hk1⟩
 obtain ⟨lv, ov, rfl, hl1, ho1⟩ := hu
 obtain ⟨A1, c1, rfl, _⟩ := hl1.shape
 obtain ⟨A2, c2, rfl, _⟩ := ho1.shape
 have hA1 := HA.out.keep hk1 (by omega)
 have hB1 := HBE.out.keep hk1 (by omega)
 obtain ⟨r0, r1, r2, r3, r4⟩ := blk5 hA1
 obtain ⟨f0, f1, f2, f3, f4⟩ := sqf5 hA1
 have HA1 := hid hA1
 have HB1 := hid hB1
 have HK1 := hid (show Ext w w1 from HE0.out.trans hk1 fun q hq e => by omega)
 have HV1 := hid (show VAt w1 (fun q => W0.heap.size ≤ q) (.agg #[U8 x.kind, .int .i64 x.n, .string x.s, .slice A1 x.l.length c1, .slice A2 x.o.length c2]) x from ⟨_, _, rfl, hl1, ho1⟩)
 clear hA1 hB1 hk1 hl1 ho1
 go_wp2_with fail
 obtain ⟨W2, hW2⟩ : ∃ W2, set5 w1 w.heap.size 0 (U8 x.kind) (.int .i64 x.n) (.string x.s) (.slice A1 x.l.length c1) (.slice A2 x.o.length c2) = W2 := ⟨_, rfl⟩
 have hk2 : Keep (· = w.heap.size) w1 W2 := by rw [← hW2]; exact set5_keep _ _ _ _ _ _ _ _
 have hb2 : Blk W2 w.heap.size TVAL #[U8 x.kind, .int .i64 x.n, .string x.s, .slice A1 x.l.length c1, .slice A2 x.o.length c2] := by rw [← hW2]; exact set5_to HA1.out rfl _ _ _ _ _
 have HB2 := hid (HB1.out.keep hk2 (by omega))
 have HK2 := hid (show Ext w W2 from HK1.out.trans hk2 fun q hq e => by omega)
 have HV2 := hid (HV1.out.keep hk2 fun q hq e => by omega)
 have HA2 := hid hb2
 change Calls _ _ _ (set5 w1 w.heap.size 0 (U8 x.kind) (.int .i64 x.n) (.string x.s) (.slice A1 x.l.length c1) (.slice A2 x.o.length c2)) _
 rw [hW2]
 clear hW2 hk2 hb2 r0 r1 r2 r3 r4 f0 f1 f2 f3 f4
 have hC : valC x = 0 := by unfold valC; rw [HX.out, if_pos rfl, if_neg (by have := HNL.out; omega)]
 have hVB : valB x = encV x := by unfold valB; rw [if_pos hC]
 refine (pval10_ok w0 HVA.out x HWI.out _ _ W2 (H0.out.ext HK2.out) HV2.out).mono ?_
 rintro e w3 ⟨u3, rfl, hu3, hE3⟩
 rw [hC]
 rw [hVB] at hu3
 have HU3 := hid (hu3.sl EU8.ok)
 obtain ⟨A3, c3, rfl, _, _⟩ := hu3.shape
 have HBV := hid (HB.out.ext EU8.ok (HK2.out.ext hE3))
 have hA3 := HA2.out.keep hE3 id
 have hB3 := HB2.out.keep hE3 id
 have HA3 := hid hA3
 have HB3 := hid hB3
 have HK3 := hid (HK2.out.ext hE3)
 have HV3 := hid (HV2.out.ext hE3)
 clear hC hVB hu3 hE3
 go_wp2_with fail
 refine (equal_ok w3 _ _ _ _ (encV x) HU3.out HBV.out).mono ?_
 rintro e w4 ⟨rfl, rfl⟩
 obtain ⟨y0, y1, y2, y3, y4⟩ := blk5 hA3
 obtain ⟨f0, f1, f2, f3, f4⟩ := sqf5 hA3
 have q0 := hB3.cell 0
 have g0 := hB3.frozen 0
 simp only [List.getElem?_toArray, List.getElem?_cons_zero] at q0
 clear hA3 hB3
 go_wp2
 obtain ⟨W4, hW4⟩ : ∃ W4, (set5 w3 w.heap.size 0 (U8 x.kind) (.int .i64 x.n) (.string x.s) (.slice A1 x.l.length c1) (.slice A2 x.o.length c2)).setCell ⟨w.heap.size + 1, 0, none⟩ (.int .u16 0) = W4 := ⟨_, rfl⟩
 have hk5 : Keep (· = w.heap.size) w3 (set5 w3 w.heap.size 0 (U8 x.kind) (.int .i64 x.n) (.string x.s) (.slice A1 x.l.length c1) (.slice A2 x.o.length c2)) := set5_keep _ _ _ _ _ _ _ _
 have hk6 : Keep (· = w.heap.size + 1) (set5 w3 w.heap.size 0 (U8 x.kind) (.int .i64 x.n) (.string x.s) (.slice A1 x.l.length c1) (.slice A2 x.o.length c2)) W4 := by rw [← hW4]; exact (Keep.refl _ _).set1 0 _
 have hb5 := (set5_to HA3.out rfl (U8 x.kind) (.int .i64 x.n) (.string x.s) (.slice A1 x.l.length c1) (.slice A2 x.o.length c2)).keep hk6 (by omega)
 have hb6 : Blk W4 (w.heap.size + 1) 38 #[.int .u16 0] := by rw [← hW4]; exact (HB3.out.keep hk5 (by omega)).set_ 0 (.int .u16 0)
 have HR := hid (show BackIs w x (.returned (.tuple #[.agg #[U8 x.kind, .int .i64 x.n, .string x.s, .slice A1 x.l.length c1, .slice A2 x.o.length c2], .int .u16 0])) W4 from
  ⟨_, rfl, (((HV3.out.keep hk5 fun q hq e => by omega).keep hk6 fun q hq e => by omega).more fun q _ h => by omega), (HK3.out.trans hk5 fun q hq e => by omega).trans hk6 fun q hq e => by omega⟩)
 obtain ⟨t0, t1, t2, t3, t4⟩ := blk5 hb5
 have t5 := hb6.cell 0
 simp only [List.getElem?_toArray, List.getElem?_cons_zero] at t5
 change bodyPostD _ _ _ _ _ ((set5 w3 w.heap.size 0 (U8 x.kind) (.int .i64 x.n) (.string x.s) (.slice A1 x.l.length c1) (.slice A2 x.o.length c2)).setCell ⟨w.heap.size + 1, 0, none⟩ (.int .u16 0))
 rw [hW4]
 clear hW4 hk5 hk6 hb5 hb6 y0 y1 y2 y3 y4 f0 f1 f2 f3 f4 q0 g0
 refine leaves_cons (f := 107) (args := #[.pointer (some ⟨w.heap.size + 1 + 1, 0, none⟩), .pointer (some ⟨w.heap.size, 0, none⟩), .pointer (some ⟨w.heap.size + 1, 0, none⟩)]) (by simp) (by simp [go_sem]) ?_
 refine (wholeD_ok _ _ _ W4).mono ?_
 rintro e u' w'' ⟨rfl, rfl, rfl⟩
 simp [Leaves, settle, results, Tryz.results85, go_sem, t0, t1, t2, t3, t4, t5]
 exact HR.out
set_option maxRecDepth 100000 in
theorem back_ok (w0 : World) (hva : ValAny w0) (x : V) (hx : lightB x = true) (hn : NAll N64 x) (hwi : Wide x) (hlen : (encV x).length ≤ 60000) (w : World) (h0 : Ext w0 w) (S0 : BS) (bv : Value) (hb : BytesS w S0 bv (encV x)) :
  Calls Tryz.prog 64 #[bv] w (BackIs w x) := by
 have hb := hb.more (S' := fun k => k < w.heap.size) EU8.ok fun k h _ => h
 obtain ⟨A, c, rfl, hlc, hcm⟩ := hb.shape
 have HC := hid (whole_ok w0 hva x hx hn hwi hlen)
 have HB := hid hb
 have HH := hid h0
 obtain ⟨n, hnl⟩ : ∃ n, (encV x).length = n := ⟨_, rfl⟩
 rw [hnl] at HB ⊢
 clear hb hva hx hn hwi hlen hlc hcm h0
 go_enter Tryz.func64, Tryz.ntmps64
 go_wp2_with fail
 obtain ⟨W0, hW0⟩ : ∃ W0, w.alloc (.cells #[.int .u8 0, .int .i64 0, .string ⟨#[]⟩, .slice none 0 0, .slice none 0 0] TVAL) = W0 := ⟨_, rfl⟩
 have hE : Ext w W0 := by rw [← hW0]; exact (Keep.refl _ _).alloc _
 have hA : Blk W0 w.heap.size TVAL #[.int .u8 0, .int .i64 0, .string ⟨#[]⟩, .slice none 0 0, .slice none 0 0] := by rw [← hW0]; exact Blk.new _ _ _
 change Calls _ _ _ (w.alloc (.cells #[.int .u8 0, .int .i64 0, .string ⟨#[]⟩, .slice none 0 0, .slice none 0 0] TVAL)) _
 rw [hW0]
 clear hW0
 refine (HC.out W0 (HH.out.ext hE) _ _ (HB.out.ext EU8.ok hE)).mono ?_
 rintro e w1 ⟨u, rfl, hu, hE1⟩
 obtain ⟨lv, ov, rfl, hl1, ho1⟩ := hu
 obtain ⟨A1, c1, rfl, _⟩ := hl1.shape
 obtain ⟨A2, c2, rfl, _⟩ := ho1.shape
 have hA1 := hA.keep hE1 id
 have hlt := hA.lt
 obtain ⟨r0, r1, r2, r3, r4⟩ := blk5 hA1
 obtain ⟨f0, f1, f2, f3, f4⟩ := sqf5 hA1
 have HA1 := hid hA1
 have HE1 := hid (hE.ext hE1)
 have HV1 := hid (show VAt w1 (fun q => W0.heap.size ≤ q) (.agg #[U8 x.kind, .int .i64 x.n, .string x.s, .slice A1 x.l.length c1, .slice A2 x.o.length c2]) x from ⟨_, _, rfl, hl1, ho1⟩)
 clear hA hA1 hE hE1 hl1 ho1
 go_wp2
 obtain ⟨W2, hW2⟩ : ∃ W2, set5 w1 w.heap.size 0 (U8 x.kind) (.int .i64 x.n) (.string x.s) (.slice A1 x.l.length c1) (.slice A2 x.o.length c2) = W2 := ⟨_, rfl⟩
 have hk2 : Keep (· = w.heap.size) w1 W2 := by rw [← hW2]; exact set5_keep _ _ _ _ _ _ _ _
 have hb2 : Blk W2 w.heap.size TVAL #[U8 x.kind, .int .i64 x.n, .string x.s, .slice A1 x.l.length c1, .slice A2 x.o.length c2] := by rw [← hW2]; exact set5_to HA1.out rfl _ _ _ _ _
 have HR := hid (show BackIs w x (.returned (.tuple #[.agg #[U8 x.kind, .int .i64 x.n, .string x.s, .slice A1 x.l.length c1, .slice A2 x.o.length c2], .int .u16 0])) W2 from
  ⟨_, rfl, (HV1.out.keep hk2 fun q hq e => by omega).more (fun q _ h => by omega), HE1.out.trans hk2 fun q hq e => by omega⟩)
 obtain ⟨t0, t1, t2, t3, t4⟩ := blk5 hb2
 change bodyPost _ _ _ _ _ (set5 w1 w.heap.size 0 (U8 x.kind) (.int .i64 x.n) (.string x.s) (.slice A1 x.l.length c1) (.slice A2 x.o.length c2))
 rw [hW2]
 clear hW2 hk2 hb2 r0 r1 r2 r3 r4 f0 f1 f2 f3 f4
 refine bodyPost_ret (v := .tuple #[.agg #[U8 x.kind, .int .i64 x.n, .string x.s, .slice A1 x.l.length c1, .slice A2 x.o.length c2], .int .u16 0]) (by simp [results, Tryz.results64, go_sem, t0, t1, t2, t3, t4]) rfl HR.out
def set7 (w : World) (g : Nat) (a b c d e f h : Value) : World := ((((((w.setCell ⟨g, 0, none⟩ a).setCell ⟨g, 1, none⟩ b).setCell ⟨g, 2, none⟩ c).setCell ⟨g, 3, none⟩ d).setCell ⟨g, 4, none⟩ e).setCell ⟨g, 5, none⟩ f).setCell ⟨g, 6, none⟩ h
theorem set7_keep (w : World) (g : Nat) (a b c d e f h : Value) : Keep (· = g) w (set7 w g a b c d e f h) := ((((((((Keep.refl (· = g) w).set1 0 a).set1 1 b).set1 2 c).set1 3 d).set1 4 e).set1 5 f).set1 6 h)
theorem set7_to {w : World} {g : Nat} {T : TypeId} {z0 z1 z2 z3 z4 z5 z6 : Value} (hb : Blk w g T #[z0, z1, z2, z3, z4, z5, z6]) (a b c d e f h : Value) : Blk (set7 w g a b c d e f h) g T #[a, b, c, d, e, f, h] := by
 have := ((((((hb.set_ 0 a).set_ 1 b).set_ 2 c).set_ 3 d).set_ 4 e).set_ 5 f).set_ 6 h
 unfold set7
 simpa using this
theorem blk7s {w : World} {g : Nat} {T : TypeId} {a0 a1 a2 a3 a4 a5 a6 : Value} (h : Blk w g T #[a0, a1, a2, a3, a4, a5, a6]) : w.cell? ⟨g, 0, none⟩ = some a0 ∧ w.cell? ⟨g, 1, none⟩ = some a1 ∧ w.cell? ⟨g, 2, none⟩ = some a2 ∧ w.cell? ⟨g, 3, none⟩ = some a3 ∧ w.cell? ⟨g, 4, none⟩ = some a4 ∧ w.cell? ⟨g, 5, none⟩ = some a5 ∧ w.cell? ⟨g, 6, none⟩ = some a6 :=
 ⟨h.cell 0, h.cell 1, h.cell 2, h.cell 3, h.cell 4, h.cell 5, h.cell 6⟩
theorem frz7s {w : World} {g : Nat} {T : TypeId} {a0 a1 a2 a3 a4 a5 a6 : Value} (h : Blk w g T #[a0, a1, a2, a3, a4, a5, a6]) : w.frozen? ⟨g, 0, none⟩ = false ∧ w.frozen? ⟨g, 1, none⟩ = false ∧ w.frozen? ⟨g, 2, none⟩ = false ∧ w.frozen? ⟨g, 3, none⟩ = false ∧ w.frozen? ⟨g, 4, none⟩ = false ∧ w.frozen? ⟨g, 5, none⟩ = false ∧ w.frozen? ⟨g, 6, none⟩ = false :=
 ⟨h.frozen 0, h.frozen 1, h.frozen 2, h.frozen 3, h.frozen 4, h.frozen 5, h.frozen 6⟩
def ReadSIs (w : World) (s : Sh) (e : Ending) (w' : World) : Prop := ∃ u, e = .returned (.tuple #[u, .bool true]) ∧ ShVal w' (fun q => w.heap.size ≤ q) u s ∧ Ext w w'
theorem shB_parts {s : Sh} (h : ShOk s) : ∃ k r, shB s = beN s.n.toNat 8 ++ k :: r ∧ (k = 0 ∧ s.there = false ∧ r = [] ∧ s.v = zV ∨ k = 1 ∧ s.there = true ∧ r = encV s.v ∧ lightB s.v = true ∧ (encV s.v).length ≤ 60000) := by
 obtain ⟨n, th, v⟩ := s
 obtain ⟨h1, h2, h3, h4, h5, h6⟩ := h
 simp only at h1 h2 h3 h4 h5 ⊢
 have hu : u64 n = n.toNat := by unfold u64; omega
 cases th with
 | false => exact ⟨0, [], by unfold shB; rw [hu]; rfl, .inl ⟨rfl, rfl, rfl, h3 rfl⟩⟩
 | true =>
  have hc : valC v = 0 := by unfold shC at h4; simpa using h4
  have hb : valB v = encV v := by unfold valB; rw [if_pos hc]
  refine ⟨1, encV v, by unfold shB; rw [hu]; show beN n.toNat 8 ++ 1 :: valB v = _; rw [hb], .inr ⟨rfl, rfl, rfl, ?_⟩⟩
  unfold valC at hc
  by_cases hl : lightB v = true
  ·rw [if_pos hl] at hc
   by_cases hg : (encV v).length > 60000
   ·rw [if_pos hg] at hc; exact absurd hc (by decide)
   ·exact ⟨hl, by omega⟩
  ·rw [if_neg hl] at hc; exact absurd hc (by decide)
set_option maxRecDepth 100000 in
theorem reads_ok (w0 : World) (hva : ValAny w0) (s : Sh) (hs : ShOk s) (hwi : Wide s.v) (w : World) (h0 : Ext w0 w) (S : BS) (bv : Value) (hb : BytesS w S bv (shB s)) :
  Calls Tryz.prog 32 #[bv] w (ReadSIs w s) := by
 obtain ⟨k, r, hkr, hcase⟩ := shB_parts hs
 rw [hkr] at hb
 have hsn : ∃ n : Nat, s.n = (n : Int) ∧ n ≤ 5000 := ⟨s.n.toNat, by have := hs.1; omega, by have := hs.2.1; omega⟩
 obtain ⟨n, hn, hn5⟩ := hsn
 rw [show s.n.toNat = n by omega] at hb
 have hb := hb.more (S' := fun k => k < w.heap.size) EU8.ok fun k h _ => h
 have hN64 := hs.2.2.2.2.1
 obtain ⟨A, c, rfl, hlc, hcm⟩ := hb.shape
 obtain ⟨m, hm⟩ : ∃ m, (beN n 8 ++ k :: r).length = m := ⟨_, rfl⟩
 have HM := hid hm
 have hm9 : 9 ≤ m := by rw [← hm, List.length_append, beN_len, List.length_cons]; omega
 have HB := hid hb
 have HCASE := hid hcase
 have HVA := hid hva
 have HWI := hid hwi
 have H0 := hid h0
 have HN64 := hid hN64
 have HN := hid hn
 rw [hm] at HB hlc ⊢
 obtain ⟨f1, f2⟩ := front_fact (P := Tryz.prog) EU8.ok ty_u8 HB.out (b := (8 : Int)) (hi := 8) rfl (by rw [hm]; omega)
 rw [take_app (beN_len n 8)] at f2
 have HF2 := hid f2
 clear hb hkr hcase hva hwi h0 hm hs hcm f2 hN64 hn
 have hmX : (9 : Int) ≤ m := by omega
 have hcX : (9 : Int) ≤ c := by omega
 go_enter Tryz.func32, Tryz.ntmps32
 go_wp2_with fail
 go_loop [4, 18] (fun s i => ∃ k : Nat, k ≤ 8 ∧ i = .int .i64 k ∧ s = .int .u64 (deN ((beN n 8).take k) : Nat)) (fun _ i => 8 - (intOf i).toNat)
 case atStart => exact ⟨0, by omega, rfl, rfl⟩
 case round =>
  obtain ⟨j, hj, rfl, rfl⟩ := hrel
  by_cases hlt : j < 8
  ·have hkl : j < (beN n 8).length := by rw [beN_len]; exact hlt
   obtain ⟨b1, off, rfl, hb, hsz, hc⟩ := bytesS_at HF2.out hkl
   have hlk := deN_lt ((beN n 8).take j)
   have hlk2 : ((beN n 8).take j).length = j := by rw [List.length_take, beN_len]; omega
   rw [hlk2] at hlk
   have hx := ((beN n 8)[j]'hkl).toNat_lt
   have hs := take_succ_get (beN n 8) j hkl
   generalize (beN n 8)[j]'hkl = x at *
   have HS := hid (show deN ((beN n 8).take (j + 1)) = deN ((beN n 8).take j) * 256 + x.toNat from by rw [hs, deN_snoc]; omega)
   clear hs hlk2
   have hm : deN ((beN n 8).take j) < 72057594037927936 := by
    have : (256 : Nat) ^ j ≤ 256 ^ 7 := Nat.pow_le_pow_right (by omega) (by omega)
    omega
   generalize deN ((beN n 8).take j) = q at *
   clear hlk
   have ho : bits .or .u64 ((q : Int) * 256) (x.toNat : Int) = ((q * 256 + x.toNat : Nat) : Int) := by
    rw [show ((q : Int) * 256) = ((q * 256 : Nat) : Int) from by omega, u64_or_nat _ _ (by omega) (by omega)]
    congr 1
    have := Nat.shiftLeft_add_eq_or_of_lt (b := x.toNat) (i := 8) hx q
    rw [Nat.shiftLeft_eq] at this
    exact this.symm
   have HO := hid ho
   have hjX : (j : Int) < 8 := by omega
   have hc' : ∀ o, (w.alloc o).cell? ⟨b1, off + j, none⟩ = some (U8 x) := fun o => (((Keep.refl (fun _ => False) w).alloc o).cell hsz id).trans hc
   clear ho hkl hc
   go_wp2
   exact ⟨⟨j + 1, by omega, by go_num, by rw [HO.out, HS.out]⟩, by simp [intOf]; omega⟩
  ·obtain rfl : j = 8 := by omega
   have hT : deN ((beN n 8).take 8) = n := by rw [List.take_of_length_le (by rw [beN_len]; omega), deN_beN, Nat.mod_eq_of_lt (by omega)]
   rw [hT]
   clear hT
   go_wp2_with fail
   obtain ⟨W0, hW0⟩ : ∃ W0, w.alloc (.cells #[.int .i64 0, .bool false, .int .u8 0, .int .i64 0, .string ⟨#[]⟩, .slice none 0 0, .slice none 0 0] TSHOT) = W0 := ⟨_, rfl⟩
   have hE0 : Ext w W0 := by rw [← hW0]; exact (Keep.refl _ _).alloc _
   have hbz : Blk W0 w.heap.size TSHOT #[.int .i64 0, .bool false, .int .u8 0, .int .i64 0, .string ⟨#[]⟩, .slice none 0 0, .slice none 0 0] := by rw [← hW0]; exact Blk.new _ _ _
   change Code.wp _ _ _ _ (w.alloc (.cells #[.int .i64 0, .bool false, .int .u8 0, .int .i64 0, .string ⟨#[]⟩, .slice none 0 0, .slice none 0 0] TSHOT))
   rw [hW0]
   clear hW0
   have h8 : 8 < (beN n 8 ++ k :: r).length := by rw [HM.out]; omega
   obtain ⟨b1, off, rfl, hb1, hsz1, hc1⟩ := bytesS_at HB.out h8
   have hk8 : (beN n 8 ++ k :: r)[8]'h8 = k := by rw [List.getElem_append_right (by rw [beN_len]; omega)]; simp [beN_len]
   rw [hk8] at hc1
   obtain ⟨A2, g1, g2⟩ := tail_fact (P := Tryz.prog) EU8.ok ty_u8 HB.out (a := (9 : Int)) (lo := 9) rfl (by rw [HM.out]; omega)
   have hdr : (beN n 8 ++ k :: r).drop 9 = r := by rw [show (9 : Nat) = 8 + 1 from rfl, ← List.drop_drop, drop_app (beN_len n 8)]; rfl
   rw [hdr] at g2
   have hlr : m - 9 = r.length := by have := HM.out; rw [List.length_append, beN_len, List.length_cons] at this; omega
   have ck := (hE0.cell hsz1 id).trans hc1
   have HG2 := hid g2
   have HE0 := hid hE0
   have HBZ := hid hbz
   clear hc1 hk8 hdr g2 hE0 hbz h8 f1
   refine wp_region_grow (specOf []) (fun w' => Ext W0 w') stable_nil (stableC_ext _) (by kernel_rfl) (by kernel_rfl) (Keep.drew (Keep.refl _ _)) ?_
   rcases HCASE.out with ⟨rfl, hth, rfl, hv⟩ | ⟨rfl, hth, rfl, hlb, hle⟩
   ·have hm0 : m = 9 := by have : ([] : List UInt8).length = 0 := rfl; omega
    subst hm0
    iterate 7
     (try simp only [Act.put, sqa, sqb, sqc])
     refine grow_run rfl rfl rfl ?_
     apply Exists.intro
     refine ⟨fun w' hC hK => ?_, ?_⟩
     ·have ck := sqw hC ck
      go_simp
      rfl
    refine grow_nil fun w6 hC _ => ?_
    have HE6 := hid (HE0.out.ext hC)
    have HB6 := hid (HBZ.out.keep hC id)
    obtain ⟨r0, r1, r2, r3, r4, r5, r6⟩ := blk7s (HBZ.out.keep hC id)
    obtain ⟨f0, f1, f2, f3, f4, f5, f6⟩ := frz7s (HBZ.out.keep hC id)
    clear hC ck
    go_wp2
    obtain ⟨W7, hW7⟩ : ∃ W7, set7 w6 w.heap.size (.int .i64 (n : Int)) (.bool false) (.int .u8 0) (.int .i64 0) (.string ⟨#[]⟩) (.slice none 0 0) (.slice none 0 0) = W7 := ⟨_, rfl⟩
    have hk7 : Keep (· = w.heap.size) w6 W7 := by rw [← hW7]; exact set7_keep _ _ _ _ _ _ _ _ _
    have hb7 : Blk W7 w.heap.size TSHOT #[.int .i64 (n : Int), .bool false, .int .u8 0, .int .i64 0, .string ⟨#[]⟩, .slice none 0 0, .slice none 0 0] := by rw [← hW7]; exact set7_to HB6.out _ _ _ _ _ _ _
    have HR := hid (show ReadSIs w s (.returned (.tuple #[.agg #[.int .i64 (n : Int), .bool false, .int .u8 0, .int .i64 0, .string ⟨#[]⟩, .slice none 0 0, .slice none 0 0], .bool true])) W7 from
     ⟨_, rfl, ⟨_, _, _, _, _, by rw [HN.out, hth], by rw [hv]; exact ⟨_, _, rfl, Sl.nil _ _, Sl.nil _ _⟩⟩, HE6.out.trans hk7 fun q hq e => by omega⟩)
    obtain ⟨t0, t1, t2, t3, t4, t5, t6⟩ := blk7s hb7
    change bodyPost _ _ _ _ _ (set7 w6 w.heap.size (.int .i64 (n : Int)) (.bool false) (.int .u8 0) (.int .i64 0) (.string ⟨#[]⟩) (.slice none 0 0) (.slice none 0 0))
    rw [hW7]
    clear hW7 hk7 hb7 r0 r1 r2 r3 r4 r5 r6 f0 f1 f2 f3 f4 f5 f6
    refine bodyPost_ret (v := .tuple #[.agg #[.int .i64 (n : Int), .bool false, .int .u8 0, .int .i64 0, .string ⟨#[]⟩, .slice none 0 0, .slice none 0 0], .bool true]) (by simp [results, Tryz.results32, go_sem, t0, t1, t2, t3, t4, t5, t6]) rfl HR.out
   ·rw [hlr] at g1 HG2
    iterate 7
     (try simp only [Act.put, sqa, sqb, sqc])
     refine grow_run rfl rfl rfl ?_
     apply Exists.intro
     refine ⟨fun w' hC hK => ?_, ?_⟩
     ·have ck := sqw hC ck
      go_simp
      rfl
    refine grow_nil fun w6 hC _ => ?_
    have HE6 := hid (HE0.out.ext hC)
    have HB6 := hid (HBZ.out.keep hC id)
    have HG6 := hid (HG2.out.ext EU8.ok HE6.out)
    clear hC ck
    go_wp2_with fail
    refine (back_ok w0 HVA.out s.v hlb HN64.out HWI.out hle w6 (H0.out.ext HE6.out) _ _ HG6.out).mono ?_
    rintro e w7 ⟨u, rfl, hu, hE7⟩
    obtain ⟨lv, ov, rfl, hl1, ho1⟩ := hu
    obtain ⟨A4, c4, rfl, _⟩ := hl1.shape
    obtain ⟨A5, c5, rfl, _⟩ := ho1.shape
    have hEa : ∀ o, Ext w7 (w7.alloc o) := fun o => (Keep.refl _ _).alloc o
    have HV7 := hid (show VAt w7 (fun q => w6.heap.size ≤ q) (.agg #[U8 s.v.kind, .int .i64 s.v.n, .string s.v.s, .slice A4 s.v.l.length c4, .slice A5 s.v.o.length c5]) s.v from ⟨_, _, rfl, hl1, ho1⟩)
    have HE7 := hid (HE6.out.ext hE7)
    have HB7 := hid (HB6.out.keep hE7 id)
    have h67 := HE6.out.size
    obtain ⟨r0, r1, r2, r3, r4, r5, r6⟩ : (∀ o, (w7.alloc o).cell? ⟨w.heap.size, 0, none⟩ = some (.int .i64 0)) ∧ (∀ o, (w7.alloc o).cell? ⟨w.heap.size, 1, none⟩ = some (.bool false)) ∧ (∀ o, (w7.alloc o).cell? ⟨w.heap.size, 2, none⟩ = some (.int .u8 0)) ∧ (∀ o, (w7.alloc o).cell? ⟨w.heap.size, 3, none⟩ = some (.int .i64 0)) ∧ (∀ o, (w7.alloc o).cell? ⟨w.heap.size, 4, none⟩ = some (.string ⟨#[]⟩)) ∧ (∀ o, (w7.alloc o).cell? ⟨w.heap.size, 5, none⟩ = some (.slice none 0 0)) ∧ (∀ o, (w7.alloc o).cell? ⟨w.heap.size, 6, none⟩ = some (.slice none 0 0)) :=
     ⟨fun o => (HB7.out.alloc o).cell 0, fun o => (HB7.out.alloc o).cell 1, fun o => (HB7.out.alloc o).cell 2, fun o => (HB7.out.alloc o).cell 3, fun o => (HB7.out.alloc o).cell 4, fun o => (HB7.out.alloc o).cell 5, fun o => (HB7.out.alloc o).cell 6⟩
    have f0 : ∀ o, (w7.alloc o).frozen? ⟨w.heap.size, 0, none⟩ = false := fun o => (HB7.out.alloc o).frozen 0
    have f1 : ∀ o, (w7.alloc o).frozen? ⟨w.heap.size, 1, none⟩ = false := fun o => (HB7.out.alloc o).frozen 1
    have f2 : ∀ o, (w7.alloc o).frozen? ⟨w.heap.size, 2, none⟩ = false := fun o => (HB7.out.alloc o).frozen 2
    have f3 : ∀ o, (w7.alloc o).frozen? ⟨w.heap.size, 3, none⟩ = false := fun o => (HB7.out.alloc o).frozen 3
    have f4 : ∀ o, (w7.alloc o).frozen? ⟨w.heap.size, 4, none⟩ = false := fun o => (HB7.out.alloc o).frozen 4
    have f5 : ∀ o, (w7.alloc o).frozen? ⟨w.heap.size, 5, none⟩ = false := fun o => (HB7.out.alloc o).frozen 5
    have f6 : ∀ o, (w7.alloc o).frozen? ⟨w.heap.size, 6, none⟩ = false := fun o => (HB7.out.alloc o).frozen 6
    clear hE7 hl1 ho1
    go_wp2
    obtain ⟨W8, hW8⟩ : ∃ W8, w7.alloc (.cells #[U8 s.v.kind, .int .i64 s.v.n, .string s.v.s, .slice A4 s.v.l.length c4, .slice A5 s.v.o.length c5] TVAL) = W8 := ⟨_, rfl⟩
    have hE8 : Ext w7 W8 := by rw [← hW8]; exact hEa _
    obtain ⟨W9, hW9⟩ : ∃ W9, set7 W8 w.heap.size (.int .i64 (n : Int)) (.bool true) (U8 s.v.kind) (.int .i64 s.v.n) (.string s.v.s) (.slice A4 s.v.l.length c4) (.slice A5 s.v.o.length c5) = W9 := ⟨_, rfl⟩
    have hk9 : Keep (· = w.heap.size) W8 W9 := by rw [← hW9]; exact set7_keep _ _ _ _ _ _ _ _ _
    have hb9 : Blk W9 w.heap.size TSHOT #[.int .i64 (n : Int), .bool true, U8 s.v.kind, .int .i64 s.v.n, .string s.v.s, .slice A4 s.v.l.length c4, .slice A5 s.v.o.length c5] := by rw [← hW9]; exact set7_to (HB7.out.keep hE8 id) _ _ _ _ _ _ _
    have hlt0 : w.heap.size < w6.heap.size := HB6.out.lt
    have HR := hid (show ReadSIs w s (.returned (.tuple #[.agg #[.int .i64 (n : Int), .bool true, U8 s.v.kind, .int .i64 s.v.n, .string s.v.s, .slice A4 s.v.l.length c4, .slice A5 s.v.o.length c5], .bool true])) W9 from
     ⟨_, rfl, ⟨_, _, _, _, _, by rw [HN.out, hth], ((HV7.out.ext hE8).keep hk9 fun q hq e => by omega).more fun q _ h => by omega⟩, (HE7.out.ext hE8).trans hk9 fun q hq e => by omega⟩)
    obtain ⟨t0, t1, t2, t3, t4, t5, t6⟩ := blk7s hb9
    change bodyPost _ _ _ _ _ (set7 (w7.alloc (.cells #[U8 s.v.kind, .int .i64 s.v.n, .string s.v.s, .slice A4 s.v.l.length c4, .slice A5 s.v.o.length c5] TVAL)) w.heap.size (.int .i64 (n : Int)) (.bool true) (U8 s.v.kind) (.int .i64 s.v.n) (.string s.v.s) (.slice A4 s.v.l.length c4) (.slice A5 s.v.o.length c5))
    rw [hW8, hW9]
    clear hW8 hW9 hk9 hb9 hE8 r0 r1 r2 r3 r4 r5 r6 f0 f1 f2 f3 f4 f5 f6
    refine bodyPost_ret (v := .tuple #[.agg #[.int .i64 (n : Int), .bool true, U8 s.v.kind, .int .i64 s.v.n, .string s.v.s, .slice A4 s.v.l.length c4, .slice A5 s.v.o.length c5], .bool true]) (by simp [results, Tryz.results32, go_sem, t0, t1, t2, t3, t4, t5, t6]) rfl HR.out
abbrev TREC15 : Nat := 24
def ShOf (r : Rs) (s : Sh) : Prop := s.n = r.n ∧ s.there = r.there ∧ (r.there = false → s.v = zV) ∧ (r.there = true → SVd 0 s.v ∧ s.v.size ≤ 241 ∧ NumT r.v s.v ∧ s.v.kind = kindT r.v)
def ShotIs (w : World) (r : Rs) (e : Ending) (w' : World) : Prop := ∃ u s, e = .returned u ∧ ShVal w' (fun q => w.heap.size ≤ q) u s ∧ ShOf r s ∧ Ext w w'
set_option maxRecDepth 100000 in
theorem shot_ok (r : Rs) (hr : r.raw = false) (w : World) (S : BS) (A : Option Addr) (c : Nat) (hv : Sl ETok w S (.slice A r.v.length c) r.v) :
  Calls Tryz.prog 9 #[.agg #[.int .i64 r.n, .bool r.there, .bool r.raw, .slice A r.v.length c]] w (ShotIs w r) := by
 obtain ⟨n, th, raw, ts⟩ := r
 simp only at hr hv ⊢
 subst hr
 have HV := hid hv
 clear hv
 cases th with
 | true =>
  go_enter Tryz.func9, Tryz.ntmps9
  go_wp2_with fail
  obtain ⟨W0, hW0⟩ : ∃ W0, ((w.alloc (.cells #[.int .i64 n, .bool true, .bool false, .slice A ts.length c] TREC15)).alloc (.cells #[.int .i64 0, .bool false, .int .u8 0, .int .i64 0, .string ⟨#[]⟩, .slice none 0 0, .slice none 0 0] TSHOT)).alloc (.cells #[.int .i64 n, .bool true, .int .u8 0, .int .i64 0, .string ⟨#[]⟩, .slice none 0 0, .slice none 0 0] TSHOT) = W0 := ⟨_, rfl⟩
  have hE0 : Ext w W0 := by rw [← hW0]; exact (((Keep.refl _ _).alloc _).alloc _).alloc _
  have hb1 : Blk W0 (w.heap.size + 1) TSHOT #[.int .i64 0, .bool false, .int .u8 0, .int .i64 0, .string ⟨#[]⟩, .slice none 0 0, .slice none 0 0] := by
   have := (Blk.new (w.alloc (.cells #[.int .i64 n, .bool true, .bool false, .slice A ts.length c] TREC15)) TSHOT #[.int .i64 0, .bool false, .int .u8 0, .int .i64 0, .string ⟨#[]⟩, .slice none 0 0, .slice none 0 0]).alloc (.cells #[.int .i64 n, .bool true, .int .u8 0, .int .i64 0, .string ⟨#[]⟩, .slice none 0 0, .slice none 0 0] TSHOT)
   rw [World.size_alloc] at this
   rw [← hW0]; exact this
  have hb2 : Blk W0 (w.heap.size + 1 + 1) TSHOT #[.int .i64 n, .bool true, .int .u8 0, .int .i64 0, .string ⟨#[]⟩, .slice none 0 0, .slice none 0 0] := by
   have := Blk.new ((w.alloc (.cells #[.int .i64 n, .bool true, .bool false, .slice A ts.length c] TREC15)).alloc (.cells #[.int .i64 0, .bool false, .int .u8 0, .int .i64 0, .string ⟨#[]⟩, .slice none 0 0, .slice none 0 0] TSHOT)) TSHOT #[.int .i64 n, .bool true, .int .u8 0, .int .i64 0, .string ⟨#[]⟩, .slice none 0 0, .slice none 0 0]
   rw [World.size_alloc, World.size_alloc] at this
   rw [← hW0]; exact this
  change Calls _ _ _ (((w.alloc (.cells #[.int .i64 n, .bool true, .bool false, .slice A ts.length c] TREC15)).alloc (.cells #[.int .i64 0, .bool false, .int .u8 0, .int .i64 0, .string ⟨#[]⟩, .slice none 0 0, .slice none 0 0] TSHOT)).alloc (.cells #[.int .i64 n, .bool true, .int .u8 0, .int .i64 0, .string ⟨#[]⟩, .slice none 0 0, .slice none 0 0] TSHOT)) _
  rw [hW0]
  refine (build_okN ts _ S W0 (HV.out.ext ETok.ok hE0)).mono ?_
  rintro e w1 ⟨u, x, rfl, hx1, hx2, hx3, hx4, hu, hE1⟩
  obtain ⟨lv, ov, rfl, hl1, ho1⟩ := hu
  obtain ⟨A4, c4, rfl, _⟩ := hl1.shape
  obtain ⟨A5, c5, rfl, _⟩ := ho1.shape
  have HXX := hid (And.intro hx1 (And.intro hx2 (And.intro hx3 hx4)))
  have HB1 := hid (hb1.keep hE1 id)
  have HB2 := hid (hb2.keep hE1 id)
  have HE1 := hid (hE0.ext hE1)
  have hz0 : w.heap.size + 2 < W0.heap.size := hb2.lt
  have HVX := hid (show VAt w1 (fun q => W0.heap.size ≤ q) (.agg #[U8 x.kind, .int .i64 x.n, .string x.s, .slice A4 x.l.length c4, .slice A5 x.o.length c5]) x from ⟨_, _, rfl, hl1, ho1⟩)
  obtain ⟨y0, y1, y2, y3, y4, y5, y6⟩ := blk7s HB2.out
  obtain ⟨f0, f1, f2, f3, f4, f5, f6⟩ := frz7s HB2.out
  clear hW0 hE0 hb1 hb2 hx1 hx2 hx3 hx4 hE1 hl1 ho1
  go_upto_region 6 with fail
  obtain ⟨W2, hW2⟩ : ∃ W2, ((((w1.setCell ⟨w.heap.size + 1 + 1, 2, none⟩ (U8 x.kind)).setCell ⟨w.heap.size + 1 + 1, 3, none⟩ (.int .i64 x.n)).setCell ⟨w.heap.size + 1 + 1, 4, none⟩ (.string x.s)).setCell ⟨w.heap.size + 1 + 1, 5, none⟩ (.slice A4 x.l.length c4)).setCell ⟨w.heap.size + 1 + 1, 6, none⟩ (.slice A5 x.o.length c5) = W2 := ⟨_, rfl⟩
  have hk2 : Keep (· = w.heap.size + 1 + 1) w1 W2 := by rw [← hW2]; exact (((((Keep.refl (· = w.heap.size + 1 + 1) w1).set1 2 _).set1 3 _).set1 4 _).set1 5 _).set1 6 _
  have hb3 : Blk W2 (w.heap.size + 1 + 1) TSHOT #[.int .i64 n, .bool true, U8 x.kind, .int .i64 x.n, .string x.s, .slice A4 x.l.length c4, .slice A5 x.o.length c5] := by
   rw [← hW2]
   have := ((((HB2.out.set_ 2 (U8 x.kind)).set_ 3 (.int .i64 x.n)).set_ 4 (.string x.s)).set_ 5 (.slice A4 x.l.length c4)).set_ 6 (.slice A5 x.o.length c5)
   simpa using this
  have hb4 := HB1.out.keep hk2 (by omega)
  change Code.wp _ _ _ _ (((((w1.setCell ⟨w.heap.size + 1 + 1, 2, none⟩ (U8 x.kind)).setCell ⟨w.heap.size + 1 + 1, 3, none⟩ (.int .i64 x.n)).setCell ⟨w.heap.size + 1 + 1, 4, none⟩ (.string x.s)).setCell ⟨w.heap.size + 1 + 1, 5, none⟩ (.slice A4 x.l.length c4)).setCell ⟨w.heap.size + 1 + 1, 6, none⟩ (.slice A5 x.o.length c5))
  rw [hW2]
  clear y0 y1 y2 y3 y4 y5 y6 f0 f1 f2 f3 f4 f5 f6 hW2
  obtain ⟨y0, y1, y2, y3, y4, y5, y6⟩ := blk7s hb3
  obtain ⟨r0, r1, r2, r3, r4, r5, r6⟩ := blk7s hb4
  obtain ⟨f0, f1, f2, f3, f4, f5, f6⟩ := frz7s hb4
  have HB4 := hid hb4
  have HE2 := hid (HE1.out.trans hk2 fun q hq e => by omega)
  have HV2 := hid (HVX.out.keep hk2 fun q hq e => by omega)
  clear hb3 hb4 hk2
  go_wp2
  obtain ⟨W9, hW9⟩ : ∃ W9, set7 W2 (w.heap.size + 1) (.int .i64 n) (.bool true) (U8 x.kind) (.int .i64 x.n) (.string x.s) (.slice A4 x.l.length c4) (.slice A5 x.o.length c5) = W9 := ⟨_, rfl⟩
  have hk9 : Keep (· = w.heap.size + 1) W2 W9 := by rw [← hW9]; exact set7_keep _ _ _ _ _ _ _ _ _
  have hb9 : Blk W9 (w.heap.size + 1) TSHOT #[.int .i64 n, .bool true, U8 x.kind, .int .i64 x.n, .string x.s, .slice A4 x.l.length c4, .slice A5 x.o.length c5] := by rw [← hW9]; exact set7_to HB4.out _ _ _ _ _ _ _
  have HR := hid (show ShotIs w ⟨n, true, false, ts⟩ (.returned (.agg #[.int .i64 n, .bool true, U8 x.kind, .int .i64 x.n, .string x.s, .slice A4 x.l.length c4, .slice A5 x.o.length c5])) W9 from
   ⟨_, ⟨n, true, x⟩, rfl, ⟨_, _, _, _, _, rfl, (HV2.out.keep hk9 fun q hq e => by omega).more fun q _ h => by omega⟩, ⟨rfl, rfl, fun h => (by cases h), fun _ => HXX.out⟩, HE2.out.trans hk9 fun q hq e => by omega⟩)
  obtain ⟨t0, t1, t2, t3, t4, t5, t6⟩ := blk7s hb9
  change bodyPost _ _ _ _ _ (set7 W2 (w.heap.size + 1) (.int .i64 n) (.bool true) (U8 x.kind) (.int .i64 x.n) (.string x.s) (.slice A4 x.l.length c4) (.slice A5 x.o.length c5))
  rw [hW9]
  clear hW9 hk9 hb9 y0 y1 y2 y3 y4 y5 y6 r0 r1 r2 r3 r4 r5 r6 f0 f1 f2 f3 f4 f5 f6
  refine bodyPost_ret (v := .agg #[.int .i64 n, .bool true, U8 x.kind, .int .i64 x.n, .string x.s, .slice A4 x.l.length c4, .slice A5 x.o.length c5]) (by simp [results, Tryz.results9, go_sem, t0, t1, t2, t3, t4, t5, t6]) rfl HR.out
 | false =>
  go_enter Tryz.func9, Tryz.ntmps9
  go_wp2
  obtain ⟨W0, hW0⟩ : ∃ W0, ((w.alloc (.cells #[.int .i64 n, .bool false, .bool false, .slice A ts.length c] TREC15)).alloc (.cells #[.int .i64 n, .bool false, .int .u8 0, .int .i64 0, .string ⟨#[]⟩, .slice none 0 0, .slice none 0 0] TSHOT)).alloc (.cells #[.int .i64 n, .bool false, .int .u8 0, .int .i64 0, .string ⟨#[]⟩, .slice none 0 0, .slice none 0 0] TSHOT) = W0 := ⟨_, rfl⟩
  have hE0 : Ext w W0 := by rw [← hW0]; exact (((Keep.refl _ _).alloc _).alloc _).alloc _
  have hb1 : Blk W0 (w.heap.size + 1) TSHOT #[.int .i64 n, .bool false, .int .u8 0, .int .i64 0, .string ⟨#[]⟩, .slice none 0 0, .slice none 0 0] := by
   have := (Blk.new (w.alloc (.cells #[.int .i64 n, .bool false, .bool false, .slice A ts.length c] TREC15)) TSHOT #[.int .i64 n, .bool false, .int .u8 0, .int .i64 0, .string ⟨#[]⟩, .slice none 0 0, .slice none 0 0]).alloc (.cells #[.int .i64 n, .bool false, .int .u8 0, .int .i64 0, .string ⟨#[]⟩, .slice none 0 0, .slice none 0 0] TSHOT)
   rw [World.size_alloc] at this
   rw [← hW0]; exact this
  obtain ⟨t0, t1, t2, t3, t4, t5, t6⟩ := blk7s hb1
  have HR := hid (show ShotIs w ⟨n, false, false, ts⟩ (.returned (.agg #[.int .i64 n, .bool false, .int .u8 0, .int .i64 0, .string ⟨#[]⟩, .slice none 0 0, .slice none 0 0])) W0 from
   ⟨_, ⟨n, false, zV⟩, rfl, ⟨_, _, _, _, _, rfl, ⟨_, _, rfl, Sl.nil _ _, Sl.nil _ _⟩⟩, ⟨rfl, rfl, fun _ => rfl, fun h => by cases h⟩, hE0⟩)
  change bodyPost _ _ _ _ _ (((w.alloc (.cells #[.int .i64 n, .bool false, .bool false, .slice A ts.length c] TREC15)).alloc (.cells #[.int .i64 n, .bool false, .int .u8 0, .int .i64 0, .string ⟨#[]⟩, .slice none 0 0, .slice none 0 0] TSHOT)).alloc (.cells #[.int .i64 n, .bool false, .int .u8 0, .int .i64 0, .string ⟨#[]⟩, .slice none 0 0, .slice none 0 0] TSHOT))
  rw [hW0]
  refine bodyPost_ret (v := .agg #[.int .i64 n, .bool false, .int .u8 0, .int .i64 0, .string ⟨#[]⟩, .slice none 0 0, .slice none 0 0]) (by simp [results, Tryz.results9, go_sem, t0, t1, t2, t3, t4, t5, t6]) rfl HR.out
end Go.Proofs.YtihaliffcobacaaGreatDoor
