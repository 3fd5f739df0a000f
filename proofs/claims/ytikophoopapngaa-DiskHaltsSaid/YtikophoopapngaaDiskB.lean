/- Package disk: New, call, fresh, Used, by contract. -/
import Derived.Test.YtikophoopapngaaRows
import Derived.Test.YtikophoopapngaaDiskA
import Derived.Tactics
import Derived.Tactics2
import Derived.Laws.Pointers
import Derived.Laws.LoneSync
import Derived.RegionTactic
import Derived.RegionCalls
import Derived.ChangeAlike
import Derived.WalkKit
set_option linter.unusedSimpArgs false
set_option linter.unusedVariables false
namespace Go.Proofs.Ytikophoopapngaa
open Go.RowKit Go.Maps
set_option linter.unusedVariables false

theorem i64_load (d i : Nat) (x : Int) (w : World) (h : w.cell? ⟨d, i, none⟩ = some (.int .i64 x)) :
    Calls Try.prog 49 #[.pointer (some ⟨d, i, none⟩)] w fun e w' => e = .returned (.int .i64 x) ∧ w = w' := by
  have hl := run_call_load (P := Try.prog) Try.func58 (by kernel_rfl) (by kernel_rfl) (by kernel_rfl) .i64 (by kernel_rfl) h
  go_enter Try.func49, Try.ntmps49
  go_wp2
  go_ret
  exact ⟨rfl, rfl⟩
theorem i64_store (d i : Nat) (x y : Int) (w : World) (h : w.cell? ⟨d, i, none⟩ = some (.int .i64 x)) (hz : w.frozen? ⟨d, i, none⟩ = false) :
    Calls Try.prog 26 #[.pointer (some ⟨d, i, none⟩), .int .i64 y] w fun e w' => e = .returned (.tuple #[]) ∧ w' = w.setCell ⟨d, i, none⟩ (.int .i64 y) := by
  have hst := run_call_store (P := Try.prog) Try.func50 (by kernel_rfl) (by kernel_rfl) (by kernel_rfl) (by kernel_rfl) (k := .i64) (y := y) h hz
  go_enter Try.func26, Try.ntmps26
  go_wp2
  go_end0
  exact ⟨rfl, rfl⟩
theorem i64_add (d i : Nat) (x : Int) (w : World) (h : w.cell? ⟨d, i, none⟩ = some (.int .i64 x)) (hz : w.frozen? ⟨d, i, none⟩ = false) (h1 : 0 < x) (h2 : x ≤ 9223372036854775807) :
    Calls Try.prog 51 #[.pointer (some ⟨d, i, none⟩), .int .i64 (-1)] w fun e w' => e = .returned (.int .i64 (x - 1)) ∧ w' = w.setCell ⟨d, i, none⟩ (.int .i64 (x - 1)) := by
  have hs : IntKind.i64.wrap (x + -1) = x - 1 := by rw [IntKind.wrap_i64]; omega
  have hadd := run_call_add (P := Try.prog) Try.func59 (by kernel_rfl) (by kernel_rfl) (by kernel_rfl) .i64 (by kernel_rfl) (y := -1) (s := x - 1) h hz (by simp [go_sem]; exact hs)
  clear hs h2
  go_enter Try.func51, Try.ntmps51
  go_wp2
  go_ret
  exact ⟨rfl, rfl⟩

/-- What a call leaves of how many are left; whether it is done. -/
def leftC (x : Int) : Int := if 0 < x then x - 1 else x
def goesC (x : Int) : Bool := x != 0
theorem leftC_ok {x : Int} (h : -1 ≤ x ∧ x ≤ 9223372036854775807) : -1 ≤ leftC x ∧ leftC x ≤ 9223372036854775807 := by unfold leftC; split <;> omega

section
variable {w w' : World} {B : BS} {d m : Nat} {fs : List DF} {s : DSt}
theorem DiskAt.setLeft (h : DiskAt w B d m fs s) (x : Int) : DiskAt (w.setCell ⟨d, 3, none⟩ (.int .i64 x)) B d m fs { s with left := x } := by
  have hk : Keep (· = d) w (w.setCell ⟨d, 3, none⟩ (.int .i64 x)) := (Keep.refl _ _).set1 3 _
  refine ⟨h.own, h.ownm, h.blk.set_ 3 _, h.map.keep hk (fun e => h.ne e.symm), fun f hf => ⟨(h.files f hf).1, (h.files f hf).2.keep hk (h.ned hf).1 fun k hk e => hk.2.1 e⟩, h.apart⟩
theorem DiskAt.setFull (h : DiskAt w B d m fs s) (x : Bool) : DiskAt (w.setCell ⟨d, 2, none⟩ (.bool x)) B d m fs { s with full := x } := by
  have hk : Keep (· = d) w (w.setCell ⟨d, 2, none⟩ (.bool x)) := (Keep.refl _ _).set1 2 _
  refine ⟨h.own, h.ownm, h.blk.set_ 2 _, h.map.keep hk (fun e => h.ne e.symm), fun f hf => ⟨(h.files f hf).1, (h.files f hf).2.keep hk (h.ned hf).1 fun k hk e => hk.2.1 e⟩, h.apart⟩
end

/-- What 'call' does. -/
def CallIs (w : World) (d : Nat) (x : Int) (e : Ending) (w' : World) : Prop := e = .returned (.bool (goesC x)) ∧ w' = if 0 < x then w.setCell ⟨d, 3, none⟩ (.int .i64 (leftC x)) else w
set_option maxHeartbeats 1600000 in
theorem disk_call (w : World) (d : Nat) (x : Int) (h : w.cell? ⟨d, 3, none⟩ = some (.int .i64 x)) (hz : w.frozen? ⟨d, 3, none⟩ = false) (hx : -1 ≤ x ∧ x ≤ 9223372036854775807) :
    Calls Try.prog 27 #[.pointer (some ⟨d, 0, none⟩)] w (CallIs w d x) := by
  obtain ⟨hx1, hx2⟩ := hx
  have HX2 := hid hx2
  clear hx2
  by_cases h0 : x = 0
  · subst h0
    go_enter Try.func27, Try.ntmps27
    go_wp2_with fail
    refine (i64_load d 3 0 w h).mono ?_
    rintro e w1 ⟨rfl, rfl⟩
    go_wp2
    go_ret
    exact ⟨rfl, rfl⟩
  · by_cases h1 : x = -1
    · subst h1
      go_enter Try.func27, Try.ntmps27
      go_wp2_with fail
      refine (i64_load d 3 (-1) w h).mono ?_
      rintro e w1 ⟨rfl, rfl⟩
      go_wp2
      go_ret
      exact ⟨rfl, rfl⟩
    · have hp : 0 < x := by omega
      have h0X : (x == 0) = false := by simp; omega
      have h1X : (x == -1) = false := by simp; omega
      go_enter Try.func27, Try.ntmps27
      go_wp2_with fail
      refine (i64_load d 3 x w h).mono ?_
      rintro e w1 ⟨rfl, rfl⟩
      go_wp2_with fail
      refine (i64_add d 3 x w h hz hp HX2.out).mono ?_
      rintro e w1 ⟨rfl, rfl⟩
      go_wp2
      go_ret
      refine ⟨?_, ?_⟩
      · unfold goesC; simp; omega
      · rw [if_pos hp, leftC, if_pos hp]

/-- What 'New' hands back. -/
def NewIs (w : World) (room : Int) (e : Ending) (w' : World) : Prop :=
  if 0 ≤ room ∧ room ≤ 1048576 then ∃ d, e = .returned (.pointer (some ⟨d, 0, none⟩)) ∧ w.heap.size ≤ d ∧ DiskIs w' (fun k => w.heap.size ≤ k ∧ k < w'.heap.size) d [] ⟨room.toNat, false, -1⟩ ∧ Ext w w'
  else e = .returned (.pointer none) ∧ Ext w w'
set_option maxHeartbeats 1600000 in
theorem disk_new (w : World) (room : Int) : Calls Try.prog 10 #[.int .i64 room] w (NewIs w room) := by
  by_cases h1 : room < 0
  · have h1X : decide (room < 0) = true := by simpa using h1
    go_enter Try.func10, Try.ntmps10
    go_wp2
    go_ret
    unfold NewIs
    rw [if_neg (by omega)]
    exact ⟨rfl, Keep.refl _ _⟩
  · by_cases h2 : 1048576 < room
    · have h1X : decide (room < 0) = false := by simpa using h1
      have h2X : decide (1048576 < room) = true := by simpa using h2
      clear h1 h2
      go_enter Try.func10, Try.ntmps10
      go_wp2
      go_ret
      unfold NewIs
      simp at h2X
      rw [if_neg (by omega)]
      exact ⟨rfl, Keep.refl _ _⟩
    · have h1X : decide (room < 0) = false := by simpa using h1
      have h2X : decide (1048576 < room) = false := by simpa using h2
      have HB := hid (show 0 ≤ room ∧ room ≤ 1048576 by omega)
      clear h1 h2
      obtain ⟨W0, hW0⟩ : ∃ W0, (w.alloc (.map #[] 0)).alloc (.cells #[.map (some w.heap.size), .int .i64 room, .bool false, .int .i64 0] TDSK) = W0 := ⟨_, rfl⟩
      have hb : Blk W0 (w.heap.size + 1) TDSK #[.map (some w.heap.size), .int .i64 room, .bool false, .int .i64 0] := by
        rw [← hW0]
        have := Blk.new (w.alloc (.map #[] 0)) TDSK #[.map (some w.heap.size), .int .i64 room, .bool false, .int .i64 0]
        rwa [World.size_alloc] at this
      have hm : MapIs W0 w.heap.size [] := by rw [← hW0]; exact (MapIs.made w).keep ((Keep.refl (fun _ => False) _).alloc _) id
      have hE : Ext w W0 := by rw [← hW0]; exact ((Keep.refl _ _).alloc _).alloc _
      have hz : W0.heap.size = w.heap.size + 1 + 1 := by rw [← hW0]; simp
      have c3 := hb.cell 3
      have f3 := hb.frozen 3
      simp only [List.getElem?_toArray, List.getElem?_cons_succ, List.getElem?_cons_zero] at c3
      have HD := hid (show DiskAt W0 (fun k => w.heap.size ≤ k ∧ k < W0.heap.size) (w.heap.size + 1) w.heap.size [] ⟨room.toNat, false, 0⟩ from
        ⟨by omega, by omega, by rw [show ((room.toNat : Nat) : Int) = room by have := HB.out; omega]; exact hb, hm, (fun f hf => by cases hf), List.Pairwise.nil⟩)
      have HE := hid hE
      have hmm := @run_makeMap Try.prog
      clear hb hm hE hz
      go_enter Try.func10, Try.ntmps10
      go_wp2_with fail
      clear hW0
      refine (i64_store _ 3 0 (-1) W0 c3 f3).mono ?_
      rintro e w1 ⟨rfl, rfl⟩
      clear c3 f3
      go_wp2
      go_ret
      unfold NewIs
      rw [if_pos HB.out]
      have hd := HD.out.setLeft (-1)
      refine ⟨_, rfl, by omega, ⟨⟨?_, Nat.zero_le _, Nat.zero_le _, (fun c hc => by cases hc), ⟨show (-1 : Int) ≤ -1 by decide, show (-1 : Int) ≤ 9223372036854775807 by decide⟩⟩, _, _, hd.more fun k hk h => ⟨h.1, ?_⟩, rfl⟩, HE.out.trans ((Keep.refl (· = w.heap.size + 1) W0).set1 3 _) fun k hk e => by omega⟩
      · have := HB.out; simp; omega
      · have := h.2; simpa using this
end Go.Proofs.Ytikophoopapngaa
