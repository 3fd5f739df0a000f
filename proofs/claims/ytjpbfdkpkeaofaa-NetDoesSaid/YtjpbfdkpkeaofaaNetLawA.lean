/- The laws of the net: their operations; heavy, known; Send of too long a message. -/
import Derived.Test.YtjpbfdkpkeaofaaNetSame
import Derived.Lib.SlBytesConst
set_option linter.unusedSimpArgs false
set_option linter.unusedVariables false
namespace Go.Proofs.Ytjpbfdkpkeaofaa
open Go.RowKit
set_option linter.unusedVariables false

/-- A call that a law makes. -/
structure LOp where
  kind : UInt8
  sess : Int
  up : Bool
  b : List UInt8
  i : Int
def EOp : El LOp := { size := 5, rd := fun w S cs o => ∃ bv, cs = [U8 o.kind, .int .i64 o.sess, .bool o.up, bv, .int .i64 o.i] ∧ BytesS w S bv o.b }
theorem EOp.ok : EOp.Ok where
  pos := by decide
  len := fun ⟨_, h, _⟩ => by subst h; rfl
  one := fun ⟨bv, h, hs⟩ u hu => by
    subst h
    obtain ⟨A, c, rfl, _⟩ := hs.shape
    simp at hu
    rcases hu with rfl | rfl | rfl | rfl | rfl <;> rfl
  keep := fun ⟨bv, h, hs⟩ hk hF => ⟨bv, h, hs.keep EU8.ok hk hF⟩
  more := fun ⟨bv, h, hs⟩ hS => ⟨bv, h, hs.more EU8.ok hS⟩

set_option maxHeartbeats 800000 in
theorem heavy_ok (w : World) (S : BS) (v : Value) (l : List LOp) (h : Sl EOp w S v l) :
    Calls Try.prog 6 #[v] w fun e w' => (e = .returned (.bool true) ∨ (e = .returned (.bool false) ∧ l.length ≤ 100)) ∧ w = w' := by
  obtain ⟨A, c, rfl, hlc, hcm⟩ := h.shape
  unfold maxLen at hcm
  have HA := hid h
  generalize hn : l.length = n at *
  have HN := hid hn
  clear h hn
  go_enter Try.func6, Try.ntmps6
  go_wp2
  go_loop [3, 4] (fun x i => ∃ (j : Nat) (s : Int), j ≤ n ∧ i = .int .i64 j ∧ x = .int .i64 s) (fun _ i => n - (intOf i).toNat)
  case atStart => exact ⟨0, 0, by omega, rfl, rfl⟩
  case round =>
    obtain ⟨j, s, hj, rfl, rfl⟩ := hrel
    by_cases hlt : j < n
    · have hjm : j < l.length := by rw [HN.out]; exact hlt
      obtain ⟨b1, o1, c1, rfl, _, _, hr1, hc1⟩ := HA.out.at_ EOp.ok hjm
      generalize hm : l[j]'hjm = m at *
      obtain ⟨bv1, rfl, hv1⟩ := hr1
      have e3 := hc1 3 _ rfl
      have hz3 : EOp.size = 5 := rfl
      simp only [hz3] at e3
      obtain ⟨A1, d1, rfl, _⟩ := hv1.shape
      clear hz3 hc1 hm hv1
      go_wp2
      go_round
      case rel => exact ⟨j + 1, _, by omega, by go_num, rfl⟩
      case measure => simp [intOf]; omega
    · obtain rfl : j = n := by omega
      by_cases h100 : (100 : Int) < j
      · go_wp2
        go_ret
        exact ⟨.inl rfl, rfl⟩
      · have h100' : (j : Int) ≤ 100 := by omega
        by_cases hs : (4000 : Int) < s
        · go_wp2
          go_ret
          exact ⟨.inl rfl, rfl⟩
        · have hs' : s ≤ 4000 := by omega
          go_wp2
          go_ret
          exact ⟨.inr ⟨rfl, by omega⟩, rfl⟩

set_option maxHeartbeats 800000 in
/-- 'Send', the message being too long. -/
theorem send_long (w : World) (S Sm : BS) (bn : Nat) (g : Option Nat) (ms : List Mail) (m : Mail) (bv : Value) (h : NetAt w S bn g ms) (hm : BytesS w Sm bv m.b) (h1 : ms.length < 2000) (h2 : 60000 < m.b.length) :
    Calls Try.prog 9 #[.pointer (some ⟨bn, 0, none⟩), .agg #[.int .i64 m.sess, .bool m.up, bv]] w fun e w' => e = .returned (.bool false) ∧ Ext w w' := by
  obtain ⟨A, c, rfl, hlc, hcm⟩ := hm.shape
  unfold maxLen at hcm
  have hE1 : Ext w (w.alloc (.cells #[.int .i64 m.sess, .bool m.up, .slice A m.b.length c] TMAIL)) := (Keep.refl _ _).alloc _
  have hbox : Blk (w.alloc (.cells #[.int .i64 m.sess, .bool m.up, .slice A m.b.length c] TMAIL)) w.heap.size TMAIL #[.int .i64 m.sess, .bool m.up, .slice A m.b.length c] := Blk.new _ _ _
  have hn1 := h.ext hE1
  have hlen : (60000 : Int) < m.b.length := by omega
  have HE := hid hE1
  have H1 := hid h1
  clear hE1 h hm h1
  go_enter Try.func9, Try.ntmps9
  go_wp2_with fail
  generalize w.alloc (.cells #[.int .i64 m.sess, .bool m.up, .slice A m.b.length c] TMAIL) = w1 at *
  refine (full_ok _ _ _ _ _ false hn1 (by simpa using H1.out)).mono ?_
  rintro e w2 ⟨rfl, rfl⟩
  have c2 := hbox.cell 2
  simp at c2
  clear hn1
  go_wp2_with fail
  go_ret
  exact ⟨rfl, HE.out⟩
end Go.Proofs.Ytjpbfdkpkeaofaa
