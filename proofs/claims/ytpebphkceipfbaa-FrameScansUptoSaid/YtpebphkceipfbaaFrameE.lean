/- frame.each: an iterator over the frames that stand one behind the other. -/
import Derived.Test.YtpebphkceipfbaaRangeNew
import Derived.Test.YtpebphkceipfbaaFrameC
import Derived.Shelf.Abstract
import Derived.Shelf.RegionOpen
import Derived.WalkKit
import Derived.OwnWalkIn
import Derived.TacticsInMore
import Derived.LoopNIn
import Derived.LoopIn
set_option linter.unusedSimpArgs false
set_option linter.unusedVariables false
namespace Go.Proofs.Ytpebphkceipfbaa
open Go.RowKit Go.Shelf
set_option linter.unusedVariables false
attribute [local go_sem] Oper.semAt_some

/-- Frames one behind the other, each with where it ends. -/
def framesL (p : Nat) (b : List UInt8) : List (Nat × List UInt8) :=
  match h : openL b with
  | none => []
  | some x => (p + (8 + x.length), x) :: framesL (p + (8 + x.length)) (b.drop (8 + x.length))
termination_by b.length
decreasing_by have := openL_length h; simp; omega
theorem framesL_none {b : List UInt8} (p : Nat) (h : openL b = none) : framesL p b = [] := by
  rw [framesL]; split
  · rfl
  · rename_i x hx; rw [h] at hx; cases hx
theorem framesL_some {b x : List UInt8} (p : Nat) (h : openL b = some x) : framesL p b = (p + (8 + x.length), x) :: framesL (p + (8 + x.length)) (b.drop (8 + x.length)) := by
  rw [framesL]; split
  · rename_i hx; rw [h] at hx; cases hx
  · rename_i y hy; rw [h] at hy; injection hy with hy; subst hy; rfl
theorem framesL_length (n : Nat) : ∀ (p : Nat) (b : List UInt8), b.length ≤ n → (framesL p b).length ≤ b.length := by
  induction n with
  | zero => intro p b h; cases ho : openL b with
    | none => rw [framesL_none p ho]; exact Nat.zero_le _
    | some x => have := openL_length ho; omega
  | succ n ih => intro p b h; cases ho : openL b with
    | none => rw [framesL_none p ho]; exact Nat.zero_le _
    | some x =>
      have h1 := openL_length ho
      have h2 := ih (p + (8 + x.length)) (b.drop (8 + x.length)) (by simp; omega)
      rw [framesL_some p ho, List.length_cons]
      simp only [List.length_drop] at h2
      omega
theorem scan_frames (n : Nat) : ∀ (p : Nat) (b : List UInt8), b.length ≤ n → (framesL p b).map (·.2) = (scanL b).1 ∧ ((framesL p b).map (·.1)).getLastD p = p + (scanL b).2 := by
  induction n with
  | zero => intro p b h; cases ho : openL b with
    | none => rw [framesL_none p ho, scanL_none ho]; exact ⟨rfl, rfl⟩
    | some x => have := openL_length ho; omega
  | succ n ih => intro p b h; cases ho : openL b with
    | none => rw [framesL_none p ho, scanL_none ho]; exact ⟨rfl, rfl⟩
    | some x =>
      have h1 := openL_length ho
      have h2 := ih (p + (8 + x.length)) (b.drop (8 + x.length)) (by simp; omega)
      rw [framesL_some p ho, scanL_some ho]
      refine ⟨by rw [List.map_cons, h2.1], ?_⟩
      rw [List.map_cons, List.getLastD_cons, h2.2]
      show p + (8 + x.length) + _ = p + (8 + x.length + _)
      omega

/-- What is given: where a frame ends, its bytes. -/
structure Fr where
  p : Nat
  A : Option Addr
  c : Nat
  x : List UInt8
abbrev Fr.v (f : Fr) : Value := .slice f.A f.x.length f.c
def Fr.enc (f : Fr) : Array Value := #[.int .i64 (f.p : Int), f.v]
def Fr.kv (f : Fr) : Nat × List UInt8 := (f.p, f.x)
def Fr.Made (Wp W : World) (f : Fr) : Prop := BytesS W (fun k => Wp.heap.size ≤ k) f.v f.x

/-- What 'Open' has left in three variables. -/
def OpenSet (b : List UInt8) (Wp wr : World) (x n e : Value) : Prop := match openL b with
  | none => x = .slice none 0 0 ∧ n = .int .i64 0 ∧ e = .int .u16 120
  | some y => ∃ A c, x = .slice A y.length c ∧ n = .int .i64 ((8 + y.length : Nat) : Int) ∧ e = .int .u16 0 ∧ BytesS wr (fun k => Wp.heap.size ≤ k) (.slice A y.length c) y

theorem open_set (v : Value) (l : List UInt8) (S : BS) (w : World) (hv : BytesS w S v l) :
    Calls Try.prog 11 #[v] w fun e w' => ∃ x n c, e = .returned (.tuple #[x, n, c]) ∧ OpenSet l w w' x n c ∧ Ext w w' :=
  (open_any v l S w hv).mono fun e w' h => by
    unfold OpenIs at h
    unfold OpenSet
    cases ho : openL l with
    | none => rw [ho] at h; obtain ⟨rfl, hE⟩ := h; exact ⟨_, _, _, rfl, ⟨rfl, rfl, rfl⟩, hE⟩
    | some y => rw [ho] at h; obtain ⟨v', rfl, hb, hE⟩ := h; obtain ⟨A, c, rfl, _⟩ := hb.shape; exact ⟨_, _, _, rfl, ⟨_, _, rfl, rfl, rfl, hb⟩, hE⟩

abbrev EKp (vb : Nat) (S : BS) : World → World → Prop := Keep (fun k => k ≠ vb ∧ ¬ S k)

set_option maxRecDepth 100000 in
set_option maxHeartbeats 3200000 in
theorem each_all (m vb : Nat) (w : World) (S : BS) (v : Value) (b : List UInt8) (hm : 1 ≤ m) (hvb : Blk w vb 22 #[v]) (hv : BytesS w S v b) (hS : ∀ k, S k → k < w.heap.size) :
    SeqNew Fence.wide m Try.prog 29 #[.pointer (some ⟨vb, 0, none⟩)] Fr.enc Fr.Made (EKp vb S) (fun xs => xs.map Fr.kv = framesL 0 b) (framesL 0 b).length w := by
  intro l J W hW hJ hY h0
  obtain ⟨A, c, rfl, hlc, hcm⟩ := hv.shape
  unfold maxLen at hcm
  have hb := hvb.keep hW id
  have q0 : W.cell? ⟨vb, 0, none⟩ = some (.slice A b.length c) := hb.cell 0
  have HV := hid (hv.ext EU8.ok hW)
  have HB := hid hb
  have HJ := hid hJ
  have HY := hid hY
  clear hv hvb hJ hY hb hW hS
  refine callsIn_of_wp Try.func29 rfl trivial ?_ rfl
  simp only [Try.ntmps29, List.size_toArray, List.length_cons, List.length_nil, Nat.reduceAdd, Nat.reduceSub, Array.replicate_succ, Array.replicate_zero, List.push_toArray, List.append_toArray, List.nil_append, List.cons_append]
  gi_wp2_with fail
  refine ⟨trivial, (callsIn_wide.2 (open_set _ _ _ _ HV.out)).mono ?_⟩
  rintro e w1 ⟨x, n, cc, rfl, hset, hE⟩
  have HSET := hid hset
  have HE1 := hid hE
  clear hset hE q0
  gi_wp2_with fail
  gi_loopw [3, 4, 5, 6] (fun p x n e wr => ∃ (pre : List Fr) (at_ : Nat) (Wp : World), at_ ≤ b.length ∧ p = .int .i64 (at_ : Int) ∧ pre.map Fr.kv ++ framesL at_ (b.drop at_) = framesL 0 b ∧ J pre Wp ∧ Ext Wp wr ∧ EKp vb S W wr ∧ OpenSet (b.drop at_) Wp wr x n e)
    (fun p _ _ _ wr => b.length - (intOf p).toNat)
  case atStart => exact ⟨[], 0, W, Nat.zero_le _, rfl, by simp, h0, HE1.out, HE1.out.mono fun _ _ h => h.elim, by simpa using HSET.out⟩
  case round =>
    obtain ⟨pre, at_, Wp, hat, rfl, hpre, hJp, hEp, hKp, hset⟩ := hrel
    unfold OpenSet at hset
    cases ho : openL (b.drop at_) with
    | none =>
      rw [ho] at hset
      obtain ⟨rfl, rfl, rfl⟩ := hset
      have hJr := HJ.out _ _ _ hJp hEp
      rw [framesL_none _ ho, List.append_nil] at hpre
      have HP := hid hpre
      have HJR := hid hJr
      clear hpre hJr hJp hEp hKp ho
      gi_wp2
      go_end0
      exact ⟨⟨_, rfl⟩, pre, HP.out, HJR.out⟩
    | some y =>
      rw [ho] at hset
      obtain ⟨A1, c1, rfl, rfl, rfl, hby⟩ := hset
      have hyl := (openL_length ho).1
      rw [List.length_drop] at hyl
      have hpl : at_ + (8 + y.length) ≤ b.length := by omega
      rw [framesL_some _ ho] at hpre
      have hlen : pre.length < (framesL 0 b).length := by rw [← hpre, List.length_append, List.length_cons, List.length_map]; omega
      obtain ⟨fn, tmps, assign, body, hy, hR⟩ := HY.out pre ⟨at_ + (8 + y.length), A1, c1, y⟩ Wp wr hJp hEp hby hlen
      simp only [Fr.enc] at hy
      rw [show ((at_ + (8 + y.length) : Nat) : Int) = (at_ : Int) + (8 + (y.length : Int)) from by omega] at hy
      rw [List.drop_drop] at hpre
      have HP := hid hpre
      have HK := hid hKp
      have HR := hid hR
      clear hpre hlen hJp hEp hKp hby ho hR
      gi_wp2_with fail
      refine HR.out.mono ?_
      rintro e W' ⟨rfl, hJ', hk'⟩
      have hK2 : EKp vb S W W' := HK.out.trans hk' fun _ _ h => h
      have q0 : W'.cell? ⟨vb, 0, none⟩ = some (.slice A b.length c) := (HB.out.keep hK2 (fun h => h.1 rfl)).cell 0
      have hv2 := HV.out.keep EU8.ok hK2 fun k hk h => h.2 hk
      obtain ⟨A4, hs4, hv4⟩ := tail_fact (P := Try.prog) EU8.ok ty_u8 hv2 (lo := at_ + (8 + y.length)) (a := (at_ : Int) + (8 + (y.length : Int))) (by omega) (by omega)
      have HJ2 := hid hJ'
      have HK2 := hid hK2
      have HV4 := hid hv4
      clear hJ' hk' hK2 hv2 hv4 HR HK hy
      gi_wp2_with fail
      refine ⟨trivial, (callsIn_wide.2 (open_set _ _ _ _ HV4.out)).mono ?_⟩
      rintro e w2 ⟨x2, n2, e2, rfl, hset2, hE2⟩
      have HSET2 := hid hset2
      have HE2 := hid hE2
      clear hset2 hE2 q0 hs4
      gi_wp2_with fail
      go_roundw
      case rel => exact ⟨pre ++ [⟨at_ + (8 + y.length), A1, c1, y⟩], at_ + (8 + y.length), W', hpl, by go_num, by rw [List.map_append, List.append_assoc]; exact HP.out, HJ2.out, HE2.out, HK2.out.ext HE2.out, HSET2.out⟩
      case measure => simp [intOf]; omega
end Go.Proofs.Ytpebphkceipfbaa
