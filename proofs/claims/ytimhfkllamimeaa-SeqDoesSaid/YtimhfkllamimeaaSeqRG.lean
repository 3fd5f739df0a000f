/- The reference of chapter 01: Copy, of leaves and of lists of leaves. -/
import Derived.Test.YtimhfkllamimeaaSeqT
set_option linter.unusedSimpArgs false
set_option linter.unusedVariables false
namespace Go.Proofs.Ytimhfkllamimeaa
open Go.RowKit

def RCopyIs (w : World) (k : UInt8) (n : Int) (s : ByteArray) (xs : List V) (e : Ending) (w' : World) : Prop :=
  ∃ v, e = .returned (.agg #[U8 k, .int .i64 n, .string s, v, .slice none 0 0]) ∧ Own EVal w' w.heap.size TVAL (fun _ => False) v xs ∧ (xs = [] → v = .slice none 0 0) ∧ Ext w w'
theorem blk_two' (w : World) (a b : Array Value) : Blk ((w.alloc (.cells a TVAL)).alloc (.cells b TVAL)) w.heap.size TVAL a ∧ Blk ((w.alloc (.cells a TVAL)).alloc (.cells b TVAL)) (w.heap.size + 1) TVAL b ∧ Ext w ((w.alloc (.cells a TVAL)).alloc (.cells b TVAL)) := by
  have := Blk.new (w.alloc (.cells a TVAL)) TVAL b
  rw [World.size_alloc] at this
  exact ⟨(Blk.new _ _ _).alloc _, this, ((Keep.refl _ _).alloc _).alloc _⟩
theorem rcopy_fin {wr : World} {b0 b1 : Nat} (hne : b1 ≠ b0) (hb1 : Blk wr b1 TVAL #[.int .u8 0, .int .i64 0, .string ⟨#[]⟩, .slice none 0 0, .slice none 0 0]) (u3 u4 v0 v1 v2 v3 v4 : Value) : Blk (((((((wr.setCell ⟨b0, 3, none⟩ u3).setCell ⟨b0, 4, none⟩ u4).setCell ⟨b1, 0, none⟩ v0).setCell ⟨b1, 1, none⟩ v1).setCell ⟨b1, 2, none⟩ v2).setCell ⟨b1, 3, none⟩ v3).setCell ⟨b1, 4, none⟩ v4) b1 TVAL #[v0, v1, v2, v3, v4] ∧ Keep (fun k => k = b0 ∨ k = b1) wr (((((((wr.setCell ⟨b0, 3, none⟩ u3).setCell ⟨b0, 4, none⟩ u4).setCell ⟨b1, 0, none⟩ v0).setCell ⟨b1, 1, none⟩ v1).setCell ⟨b1, 2, none⟩ v2).setCell ⟨b1, 3, none⟩ v3).setCell ⟨b1, 4, none⟩ v4) := by
  refine ⟨?_, (Keep.setAt (Keep.setAt (Keep.setAt (Keep.setAt (Keep.setAt (Keep.setAt (Keep.setAt (Keep.refl (fun k => k = b0 ∨ k = b1) wr) (fun _ => .inl rfl) 3 u3) (fun _ => .inl rfl) 4 u4) (fun _ => .inr rfl) 0 v0) (fun _ => .inr rfl) 1 v1) (fun _ => .inr rfl) 2 v2) (fun _ => .inr rfl) 3 v3) (fun _ => .inr rfl) 4 v4)⟩
  have g0 : Blk ((wr.setCell ⟨b0, 3, none⟩ u3).setCell ⟨b0, 4, none⟩ u4) b1 TVAL #[.int .u8 0, .int .i64 0, .string ⟨#[]⟩, .slice none 0 0, .slice none 0 0] := hb1.keep (F := fun k => k = b0) (Keep.setAt (Keep.setAt (Keep.refl (fun k => k = b0) wr) (fun _ => rfl) 3 u3) (fun _ => rfl) 4 u4) hne
  exact (Blk.set_ (Blk.set_ (Blk.set_ (Blk.set_ (Blk.set_ g0 0 v0) 1 v1) 2 v2) 3 v3) 4 v4)
theorem own_base {w : World} {b b' : Nat} {S : BS} {v : Value} {xs : List V} (h : Own EVal w b TVAL S v xs) (hb : b' ≤ b) : Own EVal w b' TVAL S v xs := by
  rcases h with h | ⟨g, cap, cur, e, h1, h2⟩
  · exact .inl h
  · exact .inr ⟨g, cap, cur, e, by omega, h2⟩
set_option maxRecDepth 100000 in
set_option maxHeartbeats 6400000 in
theorem rcopy_step (k : UInt8) (n : Int) (s : ByteArray) (xs : List V) (u : Value) (S : BS) (w : World) (hu : VAt w S u (.mk k n s xs [])) (hlen : xs.length ≤ 100000) (hf : Flat xs)
    (hall : ∀ y ∈ xs, ∀ (a : Value) (w : World), VAt w S a y → Calls Try.prog 34 #[a] w (fun e w' => e = .returned (.agg #[U8 y.kind, .int .i64 y.n, .string y.s, .slice none 0 0, .slice none 0 0]) ∧ Ext w w')) :
    Calls Try.prog 34 #[u] w (RCopyIs w k n s xs) := by
  have HALL := hid hall
  have HF := hid hf
  clear hall hf
  obtain ⟨l1, o1, rfl, h1, h2⟩ := hu
  obtain ⟨A1, c1, rfl, hc1, hm1⟩ := h1.shape
  obtain ⟨A2, c2, rfl, _, _⟩ := h2.shape
  simp only [V.kind, V.n, V.s, V.l, V.o, List.length_nil] at h1 h2 hc1 ⊢
  have H1 := hid h1
  obtain ⟨hb0, hb1, hE⟩ := blk_two' w #[U8 k, .int .i64 n, .string s, .slice A1 xs.length c1, .slice A2 0 c2] #[.int .u8 0, .int .i64 0, .string ⟨#[]⟩, .slice none 0 0, .slice none 0 0]
  have HB0 := hid hb0
  have HB1 := hid hb1
  have HE := hid hE
  have HZ := hid (show w.heap.size + 2 ≤ ((w.alloc (.cells #[U8 k, .int .i64 n, .string s, .slice A1 xs.length c1, .slice A2 0 c2] TVAL)).alloc (.cells #[.int .u8 0, .int .i64 0, .string ⟨#[]⟩, .slice none 0 0, .slice none 0 0] TVAL)).heap.size from by rw [World.size_alloc, World.size_alloc]; omega)
  clear h1 h2 hb0 hb1 hE hm1
  go_enter Try.func34, Try.ntmps34
  go_wp2_with fail
  generalize ((w.alloc (.cells #[U8 k, .int .i64 n, .string s, .slice A1 xs.length c1, .slice A2 0 c2] TVAL)).alloc (.cells #[.int .u8 0, .int .i64 0, .string ⟨#[]⟩, .slice none 0 0, .slice none 0 0] TVAL)) = w0 at *
  go_loopw [3, 4] (fun x y wr => ∃ (j : Nat), j ≤ xs.length ∧ y = .int .i64 j ∧ Own EVal wr w0.heap.size TVAL (fun _ => False) x (xs.take j) ∧ Hid (j = 0 → x = .slice none 0 0) ∧ Ext w0 wr) (fun _ y _ => xs.length - (intOf y).toNat)
  case atStart => exact ⟨0, by omega, rfl, Own.nil _ _ _ _, hid fun _ => rfl, Keep.refl _ _⟩
  case round =>
    obtain ⟨j, hj, rfl, hown, hnil, hr⟩ := hrel
    obtain ⟨A3, c3, rfl, hl3, hc3⟩ := hown.shape
    have hx := HB0.out.keep hr id
    have x3 := hx.cell 3
    have x4 := hx.cell 4
    simp at x3 x4
    have HR0 := hid hr
    by_cases hlt : j < xs.length
    · obtain ⟨b1, f1, d1, rfl, _, _, hr1, hc1'⟩ := (H1.out.ext EVal.ok (HE.out.ext hr)).at_ EVal.ok hlt
      obtain ⟨B1, n1, z1, B2, n2, z2, rfl, _, _, hva⟩ := EVal_cells hr1
      have hts := take_succ_get xs j hlt
      have hlj : (xs.take j).length = j := by rw [List.length_take]; omega
      have HC := hid (HALL.out xs[j] (List.getElem_mem hlt) _ wr hva)
      obtain ⟨yk, yn, hy⟩ := HF.out xs[j] (List.getElem_mem hlt)
      rw [hy] at hts
      have p0 := hc1' 0 _ rfl
      have p1 := hc1' 1 _ rfl
      have p2 := hc1' 2 _ rfl
      have p3 := hc1' 3 _ rfl
      have p4 := hc1' 4 _ rfl
      have e5 : EVal.size = 5 := rfl
      simp only [e5, Nat.add_zero, hy, show (nV yk yn).kind = yk from rfl, show (nV yk yn).n = yn from rfl, show (nV yk yn).s = ⟨#[]⟩ from rfl] at p0 p1 p2 p3 p4 HC
      have HTS := hid hts
      have HLJ := hid hlj
      have HO := hid hown
      have HNL := hid hnil
      have hjX : (j : Int) < xs.length := by omega
      clear hc1' hr1 hva e5 hts hlj hown hnil hr hx hy HALL
      generalize xs.take j = ta at *
      go_wp2_with fail
      refine HC.out.mono ?_
      rintro e w5 ⟨rfl, hE5⟩
      have hE6 : Ext wr (w5.alloc (.cells #[U8 yk, .int .i64 yn, .string ⟨#[]⟩, .slice none 0 0, .slice none 0 0] TVAL)) := hE5.alloc _
      have HOb := hid (HO.out.ext EVal.ok hE6)
      have HRx := hid (RowS.new (w := w5) (t := TVAL) (sz := 5) (n := 1) (cs := [U8 yk, .int .i64 yn, .string ⟨#[]⟩, .slice none 0 0, .slice none 0 0]) rfl (by simp [maxLen]) (0, 0))
      have HDx := hid (Cells.single (nV_rd (w5.alloc (.cells #[U8 yk, .int .i64 yn, .string ⟨#[]⟩, .slice none 0 0, .slice none 0 0] TVAL)) (fun _ => False) yk yn))
      have HE6 := hid hE6
      clear hE5 hE6 x3 x4 p0 p1 p2 p3 p4 HC
      go_wp2_with (at_builtin; refine wpList_own_append2 (ys := [nV yk yn]) _ rfl (.tmp 14) (.tmp 21) EVal.ok ty_val rfl rfl rfl HOb.out HRx.out HDx.out ?d1 ?d2 ?d3 ?d4 ?_)
      case d1 => exact fun _ _ => ⟨id, id⟩
      case d2 => have := HLJ.out; simp only [List.length_singleton]; omega
      case d3 => have := HLJ.out; simp only [List.length_singleton, maxLen]; omega
      case d4 => exact Nat.le_trans HR0.out.size HE6.out.size
      intro v' w' hown' hk hb
      obtain ⟨A5, c5, rfl, hl5, hc5⟩ := hown'.shape
      have hk2 : Ext w0 w' := (HR0.out.ext HE6.out).trans hk fun k hlt e => by
        have := (HO.out.lt (show (Value.slice A3 ta.length c3).ownBlock = some k from e)).1; omega
      have HO3 : Hid (Own EVal w' w0.heap.size TVAL (fun _ => False) (.slice A5 (xs.take (j + 1)).length c5) (xs.take (j + 1))) := hid (by rw [HTS.out]; exact hown'.more EVal.ok fun _ _ h => by first | exact h | exact h.elim id id)
      have HE3 := hid hk2
      have hlen5 : (ta ++ [nV yk yn]).length = (xs.take (j + 1)).length := by rw [HTS.out]
      clear hown' hk hk2 hb HO HOb HRx HDx HE6
      rw [hlen5]
      go_wp2
      exact ⟨⟨j + 1, by omega, by go_num, HO3.out, hid fun h => by omega, HE3.out⟩, by simp [intOf]; omega⟩
    · obtain rfl : j = xs.length := by omega
      have hnil := hnil.out
      rw [List.take_length] at *
      have hy := HB1.out.keep hr id
      have HO := hid hown
      have HNL := hid hnil
      have HX := hid hx
      have HY := hid hy
      have x0 := hx.cell 0
      have x1 := hx.cell 1
      have x2 := hx.cell 2
      have z3 := hx.frozen 3
      have z4 := hx.frozen 4
      have y0 := hy.cell 0
      have y1 := hy.cell 1
      have y2 := hy.cell 2
      have y3 := hy.cell 3
      have y4 := hy.cell 4
      have s0 := hy.frozen 0
      have s1 := hy.frozen 1
      have s2 := hy.frozen 2
      have s3 := hy.frozen 3
      have s4 := hy.frozen 4
      simp at x0 x1 x2 y0 y1 y2 y3 y4
      clear hx hy hown hnil hr HALL H1
      go_wp2_with fail
      go_loopw [5, 6] (fun o y w' => o = .slice none 0 0 ∧ y = .int .i64 0 ∧ w' = wr) (fun _ y _ => 0)
      case atStart => exact ⟨rfl, rfl, rfl⟩
      case round =>
        obtain ⟨rfl, rfl, rfl⟩ := hrel
        go_wp2
        change bodyPost _ _ _ _ _ (((((((wr.setCell ⟨w.heap.size, 3, none⟩ (.slice A3 xs.length c3)).setCell ⟨w.heap.size, 4, none⟩ (.slice none 0 0)).setCell ⟨w.heap.size + 1, 0, none⟩ (U8 k)).setCell ⟨w.heap.size + 1, 1, none⟩ (.int .i64 n)).setCell ⟨w.heap.size + 1, 2, none⟩ (.string s)).setCell ⟨w.heap.size + 1, 3, none⟩ (.slice A3 xs.length c3)).setCell ⟨w.heap.size + 1, 4, none⟩ (.slice none 0 0))
        obtain ⟨hB, hK⟩ := rcopy_fin (b0 := w.heap.size) (by omega) HY.out (.slice A3 xs.length c3) (.slice none 0 0) (U8 k) (.int .i64 n) (.string s) (.slice A3 xs.length c3) (.slice none 0 0)
        generalize (((((((wr.setCell ⟨w.heap.size, 3, none⟩ (.slice A3 xs.length c3)).setCell ⟨w.heap.size, 4, none⟩ (.slice none 0 0)).setCell ⟨w.heap.size + 1, 0, none⟩ (U8 k)).setCell ⟨w.heap.size + 1, 1, none⟩ (.int .i64 n)).setCell ⟨w.heap.size + 1, 2, none⟩ (.string s)).setCell ⟨w.heap.size + 1, 3, none⟩ (.slice A3 xs.length c3)).setCell ⟨w.heap.size + 1, 4, none⟩ (.slice none 0 0)) = W at *
        clear x0 x1 x2 x3 x4 y0 y1 y2 y3 y4 z3 z4 s0 s1 s2 s3 s4
        have c0 := hB.cell 0
        have c1' := hB.cell 1
        have c2' := hB.cell 2
        have c3' := hB.cell 3
        have c4 := hB.cell 4
        simp at c0 c1' c2' c3' c4
        have hz := HZ.out
        refine bodyPost_ret (v := .agg #[U8 k, .int .i64 n, .string s, .slice A3 xs.length c3, .slice none 0 0]) (by simp [results, Try.results34, go_sem, c0, c1', c2', c3', c4]) rfl ⟨_, rfl, ?_, ?_, ?_⟩
        · exact own_base (HO.out.keep EVal.ok hK (fun _ h => h.elim) fun g hg e => by have := (HO.out.lt hg).1; omega) (by omega)
        · intro h
          exact HNL.out (by rw [h]; rfl)
        · exact (HE.out.ext HR0.out).trans hK fun q hq e => by omega
/-- A leaf's copy. -/
theorem rcopy_leaf (k : UInt8) (n : Int) (u : Value) (S : BS) (w : World) (hu : VAt w S u (nV k n)) : Calls Try.prog 34 #[u] w fun e w' => e = .returned (.agg #[U8 k, .int .i64 n, .string ⟨#[]⟩, .slice none 0 0, .slice none 0 0]) ∧ Ext w w' := by
  refine (rcopy_step k n ⟨#[]⟩ [] u S w hu (by simp) (fun x hx => by cases hx) (fun y hy => by cases hy)).mono ?_
  rintro e w' ⟨v, rfl, _, h, hE⟩
  rw [h rfl]
  exact ⟨rfl, hE⟩
/-- A list's copy. -/
theorem rcopy_list (xs : List V) (lv : Value) (S : BS) (w : World) (hl : Sl EVal w S lv xs) (hlen : xs.length ≤ 100000) (hf : Flat xs) :
    Calls Try.prog 34 #[.agg #[.int .u8 0, .int .i64 0, .string ⟨#[]⟩, lv, .slice none 0 0]] w (RCopyIs w 0 0 ⟨#[]⟩ xs) :=
  rcopy_step 0 0 ⟨#[]⟩ xs _ S w ⟨_, _, rfl, hl, Sl.nil _ _⟩ hlen hf fun y hy a w' ha => by
    obtain ⟨yk, yn, rfl⟩ := hf y hy
    exact rcopy_leaf yk yn a S w' ha
end Go.Proofs.Ytimhfkllamimeaa
