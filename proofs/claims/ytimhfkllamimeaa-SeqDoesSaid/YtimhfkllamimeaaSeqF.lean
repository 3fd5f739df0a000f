/- seq.Do by contract: the parts, and what is put in. -/
import Derived.Test.YtimhfkllamimeaaSeqE
import Derived.Test.YtimhfkllamimeaaValCopy
import Derived.Test.YtimhfkllamimeaaInsertVal
import Derived.Test.YtimhfkllamimeaaDeleteVal
import Derived.Test.YtimhfkllamimeaaGrowTail
set_option linter.unusedSimpArgs false
set_option linter.unusedVariables false
namespace Go.Proofs.Ytimhfkllamimeaa
open Go.RowKit
set_option linter.unusedVariables false

/-- A value's cells, their forms in sight. -/
def ValShape (w : World) (S : BS) (v : Value) (x : V) : Prop := ∃ A c A' c', v = .agg #[U8 x.kind, .int .i64 x.n, .string x.s, .slice A x.l.length c, .slice A' x.o.length c'] ∧ VAt w S v x
theorem VAt.shape {w : World} {S : BS} {v : Value} {x : V} (h : VAt w S v x) : ValShape w S v x := by
  obtain ⟨lv, ov, rfl, h1, h2⟩ := h
  obtain ⟨A, c, rfl, _⟩ := h1.shape
  obtain ⟨A', c', rfl, _⟩ := h2.shape
  exact ⟨A, c, A', c', rfl, _, _, rfl, h1, h2⟩
theorem ValShape.ext {w w' : World} {S : BS} {v : Value} {x : V} (h : ValShape w S v x) (he : Ext w w') : ValShape w' S v x := by
  obtain ⟨A, c, A', c', e, h⟩ := h; exact ⟨A, c, A', c', e, h.ext he⟩
/-- One value, in a block of its own. -/
def OneVal (w : World) (S : BS) (v : Value) (x : V) (base : Nat) : Prop := ∃ g cy, v = .slice (some ⟨g, 0, none⟩) 1 1 ∧ base ≤ g ∧ Blk w g TVAL cy.toArray ∧ EVal.rd w S cy x
theorem OneVal.ext {w w' : World} {S : BS} {v : Value} {x : V} {base : Nat} (h : OneVal w S v x base) (he : Ext w w') : OneVal w' S v x base := by
  obtain ⟨g, cy, e, h1, h2, h3⟩ := h; exact ⟨g, cy, e, h1, h2.keep he id, EVal.ok.keep h3 he fun _ _ x => x⟩

/-- What a list is afterwards. -/
def DoIs (w : World) (ys : List V) (e : Ending) (w' : World) : Prop := ∃ A, e = .returned (.tuple #[.slice A ys.length ys.length, .int .u16 0]) ∧ Sl EVal w' (fun q => w.heap.size ≤ q) (.slice A ys.length ys.length) ys ∧ Ext w w'

/-- 'out[:len(out):len(out)]'. -/
theorem capped {w : World} {S : BS} {A : Option Addr} {n c : Nat} {xs : List V} (h : Sl EVal w S (.slice A n c) xs) : Sl EVal w S (.slice A n n) xs := by
  obtain ⟨cs, ⟨h0, A', c', e, h1, h2, h3⟩, hc⟩ := h
  injection e with e1 e2 e3
  subst e1 e2 e3
  exact ⟨cs, ⟨h0, _, _, rfl, Nat.le_refl _, by omega, h3⟩, hc⟩

theorem run_field_l (a b c e : Value) (A : Option Addr) (n m : Nat) (w : World) : (Instr.field TVAL (.agg #[a, b, c, .slice A n m, e]) 3).run Try.prog w = .ok (.slice A n m) w := by kernel_rfl
/-- 'val.Copy(api.Val{L: l}).L'. -/
theorem copy_list (xs : List V) (S : BS) (lv : Value) (w : World) (hl : Sl EVal w S lv xs) (hn : V.sizes xs ≤ 900000) :
    Calls Try.prog 31 #[.agg #[.int .u8 0, .int .i64 0, .string ⟨#[]⟩, lv, .slice none 0 0]] w fun e w' => ∃ A c A' c', e = .returned (.agg #[.int .u8 0, .int .i64 0, .string ⟨#[]⟩, .slice A xs.length c, .slice A' 0 c']) ∧
      Own EVal w' w.heap.size TVAL (fun q => w.heap.size ≤ q ∧ (Value.slice A xs.length c).ownBlock ≠ some q) (.slice A xs.length c) xs ∧ Ext w w' := by
  refine (copy_val 1000000 (.mk 0 0 ⟨#[]⟩ xs []) (by rw [V.size_eq]; simp only [V.l, V.o]; have : F.sizes [] = 0 := rfl; omega) (Nat.le_refl _) _ S w ⟨_, _, rfl, hl, Sl.nil _ _⟩).mono ?_
  rintro e w2 ⟨lv2, ov2, rfl, hl2, ho2, hE2⟩
  obtain ⟨A2, c2, rfl, hc2, hcm2⟩ := hl2.shape
  obtain ⟨A3, c3, rfl, hc3, hcm3⟩ := ho2.shape
  exact ⟨A2, c2, A3, c3, rfl, hl2, hE2⟩

set_option maxHeartbeats 3200000 in
theorem do_bad (n : Nat) (lv : Value) (k : UInt8) (p key nn v0 v1 v2 v3 v4 s : Value) (i j : Int) (A : Option Addr) (c : Nat) (w : World) (hn : n ≤ 1000000000000) (hlv : lv = .slice A n c) (hc : checkL n k i j ≠ 0) :
    Calls Try.prog 16 #[lv, cmpV (U8 k) p key i j nn v0 v1 v2 v3 v4 s] w fun e w' => e = .returned (.tuple #[.slice none 0 0, .int .u16 (checkL n k i j)]) ∧ Ext w w' := by
  subst hlv
  have hne : (checkL n k i j != 0) = true := by simpa using hc
  have HE1 := hid (show Ext w (w.alloc (.cells #[U8 k, p, key, .int .i64 i, .int .i64 j, nn, v0, v1, v2, v3, v4, s] 29)) from (Keep.refl _ _).alloc _)
  go_enter Try.func16, Try.ntmps16
  go_wp2_with (go_at_call 19; refine (check_any _ _ _ _ _ _ _ _ _ _ _ _ _ _ hn).mono ?_; rintro e w1 ⟨rfl, hT⟩; have HT := hid hT; clear hT)
  go_ret2
  exact ⟨rfl, HE1.out.ext HT.out⟩

set_option maxHeartbeats 6400000 in
theorem do_ins (xs : List V) (x : V) (S : BS) (lv p key nn v0 v1 v2 v3 v4 s : Value) (i : Nat) (j : Int) (w : World) (hl : Sl EVal w S lv xs) (hV : VAt w S (.agg #[v0, v1, v2, v3, v4]) x) (hi : i ≤ xs.length) (hn : V.sizes xs ≤ 900000) (hx : x.size ≤ 1000000) :
    Calls Try.prog 16 #[lv, cmpV (U8 4) p key i j nn v0 v1 v2 v3 v4 s] w (DoIs w (xs.take i ++ x :: xs.drop i)) := by
  have hlen := V.sizes_len xs
  obtain ⟨A, c, rfl, hlc, hcm⟩ := hl.shape
  have hck : checkL xs.length 4 i j = 0 := by simp [checkL, knownL]; omega
  have HXL := hid (show xs.length ≤ 900000 from by omega)
  have HI := hid hi
  have HN := hid hn
  have HX := hid hx
  have HCK := hid hck
  have hA : Blk (w.alloc (.cells #[U8 4, p, key, .int .i64 i, .int .i64 j, nn, v0, v1, v2, v3, v4, s] 29)) w.heap.size 29 #[U8 4, p, key, .int .i64 i, .int .i64 j, nn, v0, v1, v2, v3, v4, s] := Blk.new _ _ _
  have hE1 : Ext w (w.alloc (.cells #[U8 4, p, key, .int .i64 i, .int .i64 j, nn, v0, v1, v2, v3, v4, s] 29)) := (Keep.refl _ _).alloc _
  have HA := hid hA
  have HE1 := hid hE1
  have HL := hid hl
  have HV := hid hV
  clear hA hE1 hl hV hck hn hx hlen hlc hcm
  go_enter Try.func16, Try.ntmps16
  go_wp2_with (first
    | (go_at_call 19; refine (check_any _ _ _ _ _ _ _ _ _ _ _ _ _ _ (by have := HXL.out; omega)).mono ?_; rintro e w1 ⟨rfl, hT⟩; rw [HCK.out]; have HT := hid (HE1.out.ext hT); have HA1 := hid (HA.out.keep hT id); clear hT)
    | (go_at_call 31; refine (copy_list xs S _ w1 (HL.out.ext EVal.ok HT.out) HN.out).mono ?_; rintro e w2 ⟨A2, c2, A3, c3, rfl, hl2, hE2⟩;
       have hA2 := HA1.out.keep hE2 id; have HE2 := hid (HT.out.ext hE2); have HA2 := hid hA2; have HL2 := hid hl2; have HV2 := hid (HV.out.ext HE2.out);
       have HZ := hid (show w.heap.size ≤ w1.heap.size ∧ w1.heap.size ≤ w2.heap.size ∧ w.heap.size < w1.heap.size from ⟨HT.out.size, hE2.size, by have := HA1.out.lt; exact this⟩);
       have q0 := hA2.cell 0; have q3 := hA2.cell 3; have q4 := hA2.cell 4; have q6 := hA2.cell 6; have q7 := hA2.cell 7; have q8 := hA2.cell 8; have q9 := hA2.cell 9; have q10 := hA2.cell 10;
       simp at q0 q3 q4 q6 q7 q8 q9 q10; clear hA2 hl2 hE2 HL HV HA HE1 HT HA1))
  simp only [run_field_l]
  go_wp2_with fail
  refine wp_region_parts [0] [1, 2, 3, 4, 5, 6] [7, 8] (specOf [(5, fun v' w' => ValShape w' (fun q => w2.heap.size ≤ q) v' x), (6, fun v' w' => OneVal w' (fun q => w2.heap.size ≤ q) v' x w2.heap.size)])
    (fun w' => Ext w2 w') ?_ (stableC_ext _) (by kernel_rfl) (by kernel_rfl) (Keep.drew (Keep.refl _ _)) ?_
  · exact stable_cons (fun v w w' h he => h.ext he) (stable_cons (fun v w w' h he => h.ext he) stable_nil)
  iterate 1
    (try simp only [Act.put, List.setIfInBounds_toArray, List.set_cons_zero, List.set_cons_succ])
    refine pure_run rfl rfl ?_
    apply Exists.intro
    refine ⟨fun w' => ?_, ?_⟩
    · go_simp
      rfl
  refine pure_nil ?_
  iterate 4
    (try simp only [Act.put, List.setIfInBounds_toArray, List.set_cons_zero, List.set_cons_succ])
    refine growP_run rfl rfl rfl ?_
    apply Exists.intro
    refine ⟨fun w' hC hK => ?_, ?_⟩
    · have q3 := (hC.cell (lt_of_cell q3) id).trans q3
      have q6 := (hC.cell (lt_of_cell q6) id).trans q6
      have q7 := (hC.cell (lt_of_cell q7) id).trans q7
      have q8 := (hC.cell (lt_of_cell q8) id).trans q8
      have q9 := (hC.cell (lt_of_cell q9) id).trans q9
      have q10 := (hC.cell (lt_of_cell q10) id).trans q10
      go_simp
      rfl
  (try simp only [Act.put, List.setIfInBounds_toArray, List.set_cons_zero, List.set_cons_succ])
  refine growP_eff rfl rfl rfl (fun w' hC hK => ?_) (fun v5 hv5 => ?_)
  · unfold growAt
    go_simp
    refine grow_call ((copy_val 1000000 x HX.out (Nat.le_refl _) _ S _ (HV2.out.ext hC)).mono ?_)
    intro e w'' h
    obtain ⟨u, rfl, h1, h2⟩ := h.at_
    have := hC.size
    exact ⟨_, rfl, h2, (h1.more fun k _ hk => by omega).shape⟩
  obtain ⟨_, _, A5, c5, A6, c6, rfl, _⟩ := hv5.head
  (try simp only [Act.put, List.setIfInBounds_toArray, List.set_cons_zero, List.set_cons_succ])
  refine growP_eff rfl rfl rfl (fun w' hC hK => ?_) (fun v6 hv6 => ?_)
  · unfold growAt
    go_simp
    obtain ⟨_, _, _, _, e5, f5⟩ : ValShape w' (fun q => w2.heap.size ≤ q) (.agg #[U8 x.kind, .int .i64 x.n, .string x.s, .slice A5 x.l.length c5, .slice A6 x.o.length c6]) x := hK.get (i := 5) List.mem_cons_self (by kernel_rfl)
    exact ⟨(Keep.refl _ _).alloc _, _, [U8 x.kind, .int .i64 x.n, .string x.s, .slice A5 x.l.length c5, .slice A6 x.o.length c6], rfl, hC.size, Blk.new _ _ _, EVal.ok.keep f5.rd ((Keep.refl _ _).alloc _) fun _ _ x => x⟩
  obtain ⟨_, _, vb, cy, rfl, _⟩ := hv6.head
  refine growP_nil fun w3 hC hK => ?_
  obtain ⟨vb', cy', e7, f1, f2, f3⟩ : OneVal w3 (fun q => w2.heap.size ≤ q) (.slice (some ⟨vb, 0, none⟩) 1 1) x w2.heap.size := hK (6, _) List.mem_cons_self
  obtain rfl : vb = vb' := by injection e7 with e7; injection e7 with e7; injection e7
  change wpList _ _ _ (_ :: _ :: []) _ _
  have hC' : Ext w2 w3 := hC
  clear hC hK hv5 hv6 e7
  have hO3 := HL2.out.ext EVal.ok hC'
  have HC := hid hC'
  have hgs : ∀ g, (Value.slice A2 xs.length c2).ownBlock = some g → ¬ (w1.heap.size ≤ g ∧ (Value.slice A2 xs.length c2).ownBlock ≠ some g) ∧ ¬ (w2.heap.size ≤ g ∧ g < w3.heap.size) ∧ g ≠ vb := fun g e => by
    have := (HL2.out.lt e).2
    exact ⟨fun h => h.2 e, fun h => by omega, fun h => by omega⟩
  have hx3 : EVal.rd w3 (fun q => w2.heap.size ≤ q ∧ q < w3.heap.size) cy' x := EVal.ok.more f3 fun k h1 h2 => ⟨h2, h1⟩
  have HIN := hid (insert_val w3 w1.heap.size _ _ _ _ xs x i vb cy' hO3 rfl f2 hx3 HI.out hgs (by have := HXL.out; omega) (by have := HZ.out; have := hC'.size; omega))
  obtain ⟨ys, hys⟩ : ∃ ys, ys = xs.take i ++ x :: xs.drop i := ⟨_, rfl⟩
  rw [← hys] at HIN ⊢
  have HZ3 := hid hC'.size
  have HYS := hid hys
  clear hO3 hgs hx3 f1 f2 f3 hC' hys q0 q3 q4 q6 q7 q8 q9 q10 HV2 HA2
  (try simp only [Act.put, List.setIfInBounds_toArray, List.set_cons_zero, List.set_cons_succ])
  go_wp2_with (go_at_call 32; refine HIN.out.mono ?_; rintro e w4 ⟨v4, rfl, ho4, hk4, hb4⟩; obtain ⟨A4, c4, rfl, hl4, hc4⟩ := ho4.shape; have HO4 := hid ho4; have HK4 := hid hk4; have HB4 := hid hb4; clear ho4 hk4 hb4)
  refine NoPanic.normal ?_
  go_wp2
  go_ret2
  have hz := HZ.out
  obtain rfl := HYS.out
  refine ⟨A4, rfl, capped ((HO4.out.sl EVal.ok).more EVal.ok fun q _ h => ?_), (HE2.out.ext HC.out).trans HK4.out fun q hq e => by have := (HL2.out.lt e).1; omega⟩
  rcases h with (h | h) | h
  · have := h.1; omega
  · have := h.1; omega
  · have := (HO4.out.lt h).1; omega
end Go.Proofs.Ytimhfkllamimeaa
