/- ProjP, ProjJ: laid together. -/
import Derived.Test.YtggkidnlmaindaaDoorPaB37
import Derived.Test.YtggkidnlmaindaaDoorPaB35
import Derived.Test.YtggkidnlmaindaaDoorPaB2
set_option linter.unusedSimpArgs false
set_option linter.unusedVariables false
set_option maxHeartbeats 25600000
set_option maxRecDepth 20000
namespace Go.Proofs.YtggkidnlmaindaaDoor
open Go.RowKit
abbrev qA : V := .mk 2 1 ⟨#[]⟩ [] []
abbrev qB : V := .mk 2 2 ⟨#[]⟩ [] []
abbrev qV : V := .mk 5 0 ⟨#[]⟩ [] [.mk ⟨#[97]⟩ qA, .mk ⟨#[98]⟩ qB]
abbrev qW : V := .mk 5 0 ⟨#[]⟩ [] [.mk ⟨#[98]⟩ qB]
theorem q_proj : projV qV [⟨#[98]⟩] = qW := by
 rw [projV, if_pos (show qV.kind = 5 from rfl)]
 have h1 : goes [⟨#[98]⟩] (.mk ⟨#[97]⟩ qA) = true := by simp [goes, amongL, F.key, ByteArray.toList_eq]
 have h2 : goes [⟨#[98]⟩] (.mk ⟨#[98]⟩ qB) = false := by simp [goes, amongL, F.key, ByteArray.toList_eq]
 simp [V.o, h1, h2]
theorem q_size : qV.size ≤ 1000000 := by simp [V.size, V.sizes, F.sizes, F.size]
theorem q_in : (qW.o.any (goes [⟨#[98]⟩])) = false := by simp [V.o, goes, amongL, F.key, ByteArray.toList_eq]
theorem q_flat (w : World) (S : BS) (k : UInt8) (n : Int) (s : ByteArray) : rdV w S (.mk k n s [] []) [U8 k, .int .i64 n, .string s, .slice none 0 0, .slice none 0 0] := rdV_iff.2 ⟨_, _, rfl, Sl.nil _ _, Sl.nil _ _⟩
theorem q_snd1 : psnd [⟨#[97]⟩, ⟨#[98]⟩] = true := psnd_five (m := 5) (by show List.Sublist _ (fiveKeys.take 5); exact (List.Sublist.cons_cons _ (List.Sublist.cons_cons _ (List.nil_sublist _))))
theorem q_snd2 : psnd [⟨#[98]⟩, ⟨#[97]⟩] = false := by
 refine psnd_bad (i := 1) (by simp) ?_
 rw [badAt_succ (g := ⟨#[98]⟩) (f := ⟨#[97]⟩) rfl rfl]
 have : leB ⟨#[97]⟩ ⟨#[98]⟩ = true := by unfold leB; simp only [ByteArray.toList_eq]; decide
 rw [this]; simp
theorem q_str (w : World) (a : ByteArray) : Sl EStr (w.alloc (.cells #[.string a] 9)) (fun _ => True) (.slice (some ⟨w.heap.size, 0, none⟩) 1 1) [a] :=
 ⟨[.string a], (RowS.new (w := w) (t := 9) (sz := 1) (n := 1) (cs := [.string a]) rfl (by simp [maxLen]) (0, 0)).more fun _ _ _ => trivial, Cells.single rfl⟩
theorem q_str2 (w : World) (a b : ByteArray) : Sl EStr (w.alloc (.cells #[.string a, .string b] 9)) (fun _ => True) (.slice (some ⟨w.heap.size, 0, none⟩) 2 2) [a, b] :=
 ⟨[.string a, .string b], (RowS.new (w := w) (t := 9) (sz := 1) (n := 2) (cs := [.string a, .string b]) rfl (by simp [maxLen]) (0, 0)).more fun _ _ _ => trivial, ⟨[.string a], [.string b], rfl, rfl, Cells.single rfl⟩⟩
theorem q_at (w : World) (b1 : Nat) (h1 : Blk w b1 TFIELD #[.string ⟨#[97]⟩, .int .u8 2, .int .i64 1, .string ⟨#[]⟩, .slice none 0 0, .slice none 0 0, .string ⟨#[98]⟩, .int .u8 2, .int .i64 2, .string ⟨#[]⟩, .slice none 0 0, .slice none 0 0]) :
  VAt w (fun _ => True) (.agg #[.int .u8 5, .int .i64 0, .string ⟨#[]⟩, .slice none 0 0, .slice (some ⟨b1, 0, none⟩) 2 2]) qV := by
 have hA : EField.rd w (fun _ => True) [.string ⟨#[97]⟩, .int .u8 2, .int .i64 1, .string ⟨#[]⟩, .slice none 0 0, .slice none 0 0] (F.mk ⟨#[97]⟩ qA) := rdF_iff.2 ⟨_, rfl, q_flat w _ 2 1 ⟨#[]⟩⟩
 have hB : EField.rd w (fun _ => True) [.string ⟨#[98]⟩, .int .u8 2, .int .i64 2, .string ⟨#[]⟩, .slice none 0 0, .slice none 0 0] (F.mk ⟨#[98]⟩ qB) := rdF_iff.2 ⟨_, rfl, q_flat w _ 2 2 ⟨#[]⟩⟩
 refine ⟨.slice none 0 0, .slice (some ⟨b1, 0, none⟩) 2 2, rfl, Sl.nil _ _, ⟨[.string ⟨#[97]⟩, .int .u8 2, .int .i64 1, .string ⟨#[]⟩, .slice none 0 0, .slice none 0 0] ++ ([.string ⟨#[98]⟩, .int .u8 2, .int .i64 2, .string ⟨#[]⟩, .slice none 0 0, .slice none 0 0] ++ []), ⟨rfl, _, 2, rfl, by simp [V.o], by simp [maxLen], fun _ => ⟨b1, 0, rfl, trivial, h1.lt, fun j u hu => by rw [Nat.zero_add, h1.cell]; simpa using hu⟩⟩, ⟨_, _, rfl, hA, ⟨_, _, rfl, hB, rfl⟩⟩⟩⟩
theorem known18_ok (w0 w : World) (hv : ValAny w0) (h0 : Ext w0 w) : Calls Tryd.prog 9 #[] w fun e w' => e = .returned (.bool true) ∧ Ext w w' := by
 have HV := hid hv
 have H0 := hid h0
 clear hv h0
 have hE : Ext w (((w.alloc (.cells #[.string ⟨#[97]⟩, .int .u8 2, .int .i64 1, .string ⟨#[]⟩, .slice none 0 0, .slice none 0 0, .string ⟨#[98]⟩, .int .u8 2, .int .i64 2, .string ⟨#[]⟩, .slice none 0 0, .slice none 0 0] TFIELD)).alloc (.cells #[.int .u8 5, .int .i64 0, .string ⟨#[]⟩, .slice none 0 0, .slice (some ⟨w.heap.size, 0, none⟩) 2 2] TVAL)).alloc (.cells #[.string ⟨#[98]⟩] 9)) := (((Keep.refl _ _).alloc _).alloc _).alloc _
 have hb0 : Blk (((w.alloc (.cells #[.string ⟨#[97]⟩, .int .u8 2, .int .i64 1, .string ⟨#[]⟩, .slice none 0 0, .slice none 0 0, .string ⟨#[98]⟩, .int .u8 2, .int .i64 2, .string ⟨#[]⟩, .slice none 0 0, .slice none 0 0] TFIELD)).alloc (.cells #[.int .u8 5, .int .i64 0, .string ⟨#[]⟩, .slice none 0 0, .slice (some ⟨w.heap.size, 0, none⟩) 2 2] TVAL)).alloc (.cells #[.string ⟨#[98]⟩] 9)) w.heap.size TFIELD _ := ((Blk.new w TFIELD #[.string ⟨#[97]⟩, .int .u8 2, .int .i64 1, .string ⟨#[]⟩, .slice none 0 0, .slice none 0 0, .string ⟨#[98]⟩, .int .u8 2, .int .i64 2, .string ⟨#[]⟩, .slice none 0 0, .slice none 0 0]).alloc (.cells #[.int .u8 5, .int .i64 0, .string ⟨#[]⟩, .slice none 0 0, .slice (some ⟨w.heap.size, 0, none⟩) 2 2] TVAL)).alloc (.cells #[.string ⟨#[98]⟩] 9)
 have hs2 := q_str ((w.alloc (.cells #[.string ⟨#[97]⟩, .int .u8 2, .int .i64 1, .string ⟨#[]⟩, .slice none 0 0, .slice none 0 0, .string ⟨#[98]⟩, .int .u8 2, .int .i64 2, .string ⟨#[]⟩, .slice none 0 0, .slice none 0 0] TFIELD)).alloc (.cells #[.int .u8 5, .int .i64 0, .string ⟨#[]⟩, .slice none 0 0, .slice (some ⟨w.heap.size, 0, none⟩) 2 2] TVAL)) ⟨#[98]⟩
 rw [World.size_alloc, World.size_alloc] at hs2
 go_enter Tryd.func9, Tryd.ntmps9
 go_wp2_with fail
 generalize ((w.alloc (.cells #[.string ⟨#[97]⟩, .int .u8 2, .int .i64 1, .string ⟨#[]⟩, .slice none 0 0, .slice none 0 0, .string ⟨#[98]⟩, .int .u8 2, .int .i64 2, .string ⟨#[]⟩, .slice none 0 0, .slice none 0 0] TFIELD)).alloc (.cells #[.int .u8 5, .int .i64 0, .string ⟨#[]⟩, .slice none 0 0, .slice (some ⟨w.heap.size, 0, none⟩) 2 2] TVAL)).alloc (.cells #[.string ⟨#[98]⟩] 9) = w1 at *
 refine (pval_ok w1 _ _ _ _ qV [⟨#[98]⟩] (q_at w1 _ hb0) q_size hs2).mono ?_
 rw [q_proj]
 rintro e w2 ⟨u, rfl, hva, hE2⟩
 obtain ⟨lv, ov, hu, hl, ho⟩ := hva
 obtain ⟨A1, c1, hl1, _⟩ := hl.shape
 obtain rfl : lv = .slice A1 0 c1 := hl1
 obtain ⟨A2, c2, ho1, _⟩ := ho.shape
 obtain rfl : ov = .slice A2 1 c2 := ho1
 obtain rfl : u = .agg #[.int .u8 5, .int .i64 0, .string ⟨#[]⟩, .slice A1 0 c1, .slice A2 1 c2] := hu
 have hA : Ext w2 (w2.alloc (.cells #[.int .u8 5, .int .i64 0, .string ⟨#[]⟩, .slice A1 0 c1, .slice A2 1 c2] TVAL)) := (Keep.refl _ _).alloc _
 have hb2 := Blk.new w2 TVAL #[.int .u8 5, .int .i64 0, .string ⟨#[]⟩, .slice A1 0 c1, .slice A2 1 c2]
 have ho3 := ho.ext EField.ok hA
 have hl3 := hl.ext EVal.ok hA
 obtain ⟨b1, f1, d1, rfl, _, _, hr1, hc1⟩ := ho3.at_ EField.ok (k := 0) (by simp [V.o])
 obtain ⟨lv1, ov1, rfl, ⟨D1, g1, rfl⟩, ⟨D2, g2, rfl⟩, _⟩ := EField_cells hr1
 generalize hw3 : w2.alloc (.cells #[.int .u8 5, .int .i64 0, .string ⟨#[]⟩, .slice A1 0 c1, .slice (some ⟨b1, f1, none⟩) 1 c2] TVAL) = w3 at *
 have p0 : w3.cell? ⟨b1, f1, none⟩ = some (.string ⟨#[98]⟩) := hc1 0 _ rfl
 have p2 : w3.cell? ⟨b1, f1 + 2, none⟩ = some (.int .i64 2) := hc1 2 _ rfl
 have HE := hid (hE.ext (hE2.ext hA))
 have HVW := hid (show VAt w3 (fun _ => True) (.agg #[.int .u8 5, .int .i64 0, .string ⟨#[]⟩, .slice A1 0 c1, .slice (some ⟨b1, f1, none⟩) 1 c2]) qW from ⟨_, _, rfl, hl3, ho3⟩)
 have HB2 := hid hb2
 clear hE hb0 hs2 hE2 hA hb2 ho3 hl3 ho hl hc1 hr1
 obtain ⟨z0, z1, z2, z3, z4⟩ := blk5 HB2.out
 have hn : (2 : Int) = 2 := rfl
 go_wp2_with fail
 have hk := q_str2 w3 ⟨#[97]⟩ ⟨#[98]⟩
 have hA : Ext w3 (w3.alloc (.cells #[.string ⟨#[97]⟩, .string ⟨#[98]⟩] 9)) := (Keep.refl _ _).alloc _
 refine (psound_ok _ _ _ _ hk (fun f hf => by simp at hf; rcases hf with rfl | rfl <;> exact Nat.le_trans (show _ ≤ 1 from Nat.le_refl _) (by omega)) (HV.out.ext (H0.out.ext (HE.out.ext hA)))).mono ?_
 rw [q_snd1]
 rintro e w4 ⟨rfl, hE⟩
 replace HE := hid (HE.out.ext (hA.ext hE))
 replace HVW := hid (HVW.out.ext (hA.ext hE))
 replace HB2 := hid (HB2.out.keep (hA.ext hE) id)
 clear hw3 hk hA hE p0 p2 z0 z1 z2 z3 z4
 go_wp2_with fail
 have hk := q_str2 w4 ⟨#[98]⟩ ⟨#[97]⟩
 have hA : Ext w4 (w4.alloc (.cells #[.string ⟨#[98]⟩, .string ⟨#[97]⟩] 9)) := (Keep.refl _ _).alloc _
 refine (psound_ok _ _ _ _ hk (fun f hf => by simp at hf; rcases hf with rfl | rfl <;> exact Nat.le_trans (show _ ≤ 1 from Nat.le_refl _) (by omega)) (HV.out.ext (H0.out.ext (HE.out.ext hA)))).mono ?_
 rw [q_snd2]
 rintro e w5 ⟨rfl, hE⟩
 replace HE := hid (HE.out.ext (hA.ext hE))
 replace HVW := hid (HVW.out.ext (hA.ext hE))
 replace HB2 := hid (HB2.out.keep (hA.ext hE) id)
 clear hk hA hE
 obtain ⟨z0, z1, z2, z3, z4⟩ := blk5 HB2.out
 go_wp2_with fail
 have hk := q_str w5 ⟨#[98]⟩
 have hA : Ext w5 (w5.alloc (.cells #[.string ⟨#[98]⟩] 9)) := (Keep.refl _ _).alloc _
 refine (within_create _ _ _ qW _ _ _ _ (HVW.out.ext hA) rfl hk).mono ?_
 rw [q_in]
 rintro e w6 ⟨rfl, hE⟩
 replace HE := hid (HE.out.ext (hA.ext hE))
 clear hk hA hE z0 z1 z2 z3 z4
 go_wp2
 go_ret
 exact ⟨rfl, HE.out⟩
abbrev zRec : Value := .agg #[.int .u8 0, .int .u32 0, .int .u32 0, .slice none 0 0, .slice none 0 0, .slice none 0 0, .bool false]
theorem heavy6_nil (w : World) : Calls Tryd.prog 26 #[.slice none 0 0] w fun e w' => e = .returned (.int .i64 0) ∧ Ext w w' := by
 go_enter Tryd.func26, Tryd.ntmps26
 go_wp2
 go_loop [3, 4] (fun y i => y = .int .i64 0 ∧ i = .int .i64 0) (fun _ i => 0)
 case atStart => exact ⟨rfl, rfl⟩
 case round =>
  obtain ⟨rfl, rfl⟩ := hrel
  go_wp2
  go_ret
  exact ⟨rfl, Keep.refl _ _⟩
theorem heavy10_nil (w : World) : Calls Tryd.prog 30 #[zRec] w fun e w' => e = .returned (.int .i64 0) ∧ Ext w w' := by
 have hE0 : Ext w (w.alloc (.cells #[.int .u8 0, .int .u32 0, .int .u32 0, .slice none 0 0, .slice none 0 0, .slice none 0 0, .bool false] 30)) := (Keep.refl _ _).alloc _
 have hb := Blk.new w 30 #[.int .u8 0, .int .u32 0, .int .u32 0, .slice none 0 0, .slice none 0 0, .slice none 0 0, .bool false]
 obtain ⟨W0, hW0⟩ : ∃ W0, w.alloc (.cells #[.int .u8 0, .int .u32 0, .int .u32 0, .slice none 0 0, .slice none 0 0, .slice none 0 0, .bool false] 30) = W0 := ⟨_, rfl⟩
 rw [hW0] at hE0 hb
 have HE0 := hid hE0
 have HB := hid hb
 have q5 := hb.cell 5
 simp only [List.getElem?_toArray, List.getElem?_cons_succ, List.getElem?_cons_zero] at q5
 clear hE0 hb
 go_enter Tryd.func30, Tryd.ntmps30
 go_wp2_with fail
 refine (heavy6_nil W0).mono ?_
 rintro e w1 ⟨rfl, hE⟩
 have q3 := (HB.out.keep hE id).cell 3
 have q4 := (HB.out.keep hE id).cell 4
 simp only [List.getElem?_toArray, List.getElem?_cons_succ, List.getElem?_cons_zero] at q3 q4
 have HE := hid (HE0.out.ext hE)
 clear hE hW0 q5
 go_wp2
 go_loop [3, 4] (fun y i => y = .int .i64 0 ∧ i = .int .i64 0) (fun _ i => 0)
 case atStart => exact ⟨rfl, rfl⟩
 case round =>
  obtain ⟨rfl, rfl⟩ := hrel
  go_wp2
  go_loop [3, 5] (fun y i => y = .int .i64 0 ∧ i = .int .i64 0) (fun _ i => 0)
  case atStart => exact ⟨rfl, rfl⟩
  case round =>
   obtain ⟨rfl, rfl⟩ := hrel
   go_wp2
   go_ret
   exact ⟨rfl, HE.out⟩
def TruthIs (w : World) (e : Ending) (w' : World) : Prop := ∃ b : Bool, e = .returned (.bool b) ∧ Ext w w'
theorem heavy18_ok (w : World) (S S2 : BS) (v pv : Value) (ts : List Tk) (p : List ByteArray) (h : Sl ETok w S v ts) (hp : Sl EStr w S2 pv p) :
  Calls Tryd.prog 8 #[v, pv, zRec] w (TruthIs w) := by
 obtain ⟨A, c, rfl, hlc, hcm⟩ := h.shape
 obtain ⟨A2, c2, rfl, hlc2, hcm2⟩ := hp.shape
 unfold maxLen at hcm hcm2
 have hE0 : Ext w (w.alloc (.cells #[.int .u8 0, .int .u32 0, .int .u32 0, .slice none 0 0, .slice none 0 0, .slice none 0 0, .bool false] 30)) := (Keep.refl _ _).alloc _
 have hb := Blk.new w 30 #[.int .u8 0, .int .u32 0, .int .u32 0, .slice none 0 0, .slice none 0 0, .slice none 0 0, .bool false]
 obtain ⟨W0, hW0⟩ : ∃ W0, w.alloc (.cells #[.int .u8 0, .int .u32 0, .int .u32 0, .slice none 0 0, .slice none 0 0, .slice none 0 0, .bool false] 30) = W0 := ⟨_, rfl⟩
 rw [hW0] at hE0 hb
 have HA0 := hid (h.ext ETok.ok hE0)
 have HP0 := hid (hp.ext EStr.ok hE0)
 have HE0 := hid hE0
 have q0 := hb.cell 0
 have q1 := hb.cell 1
 have q2 := hb.cell 2
 have q3 := hb.cell 3
 have q4 := hb.cell 4
 have q5 := hb.cell 5
 have q6 := hb.cell 6
 simp only [List.getElem?_toArray, List.getElem?_cons_succ, List.getElem?_cons_zero] at q0 q1 q2 q3 q4 q5 q6
 clear h hp hE0 hb
 generalize hn : ts.length = n at *
 generalize hm : p.length = m at *
 have HN := hid (And.intro hn hm)
 clear hn hm
 go_enter Tryd.func8, Tryd.ntmps8
 go_wp2_with fail
 refine (heavy10_nil W0).mono ?_
 rintro e w1 ⟨rfl, hE⟩
 have HA := hid (HA0.out.ext ETok.ok hE)
 have HP := hid (HP0.out.ext EStr.ok hE)
 have HE := hid (HE0.out.ext hE)
 clear hE hW0 q0 q1 q2 q3 q4 q5 q6
 go_wp2
 go_loop [7, 8] (fun y i => ∃ (z : Int) (j : Nat), y = .int .i64 z ∧ j ≤ n ∧ i = .int .i64 j) (fun _ i => n - (intOf i).toNat)
 case atStart => exact ⟨0, 0, rfl, by omega, rfl⟩
 case round =>
  obtain ⟨z, j, rfl, hj, rfl⟩ := hrel
  by_cases hlt : j < n
  ·obtain ⟨b1, o1, c0, rfl, _, _, hrd, hcell⟩ := HA.out.at_ ETok.ok (k := j) (by rw [HN.out.1]; exact hlt)
   generalize ts[j]'(by rw [HN.out.1]; exact hlt) = t at *
   obtain rfl : c0 = [U8 t.kind, .int .i64 t.n, .string t.s, U8 t.many] := hrd
   have e2 := hcell 2 _ rfl
   have hz : ETok.size = 4 := rfl
   simp only [hz] at e2
   clear hcell hz
   go_wp2
   go_round
   case rel => exact ⟨_, j + 1, rfl, by omega, by go_num⟩
   case measure => simp [intOf]; omega
  ·obtain rfl : j = n := by omega
   go_wp2
   go_loop [7, 9] (fun y i => ∃ (z : Int) (j : Nat), y = .int .i64 z ∧ j ≤ m ∧ i = .int .i64 j) (fun _ i => m - (intOf i).toNat)
   case atStart => exact ⟨z, 0, rfl, by omega, rfl⟩
   case round =>
    obtain ⟨z2, i, rfl, hj, rfl⟩ := hrel
    by_cases hlt : i < m
    ·obtain ⟨b1, o1, c0, rfl, _, _, hrd, hcell⟩ := HP.out.at_ EStr.ok (k := i) (by rw [HN.out.2]; exact hlt)
     generalize p[i]'(by rw [HN.out.2]; exact hlt) = t at *
     obtain rfl : c0 = [.string t] := hrd
     have e2 := hcell 0 _ rfl
     have hz : EStr.size = 1 := rfl
     simp only [hz, Nat.mul_one, Nat.add_zero] at e2
     clear hcell hz
     go_wp2
     go_round
     case rel => exact ⟨_, i + 1, rfl, by omega, by go_num⟩
     case measure => simp [intOf]; omega
    ·obtain rfl : i = m := by omega
     by_cases g1 : 5000 < z2
     ·go_wp2
      go_ret
      exact ⟨_, rfl, HE.out⟩
     ·go_wp2
      go_ret
      exact ⟨_, rfl, HE.out⟩
end Go.Proofs.YtggkidnlmaindaaDoor
