/- The law's calls on a disk; heavy. -/
import Derived.Test.YtikophoopapngaaDiskO
import Derived.Test.YtikophoopapngaaDiskM
import Derived.Test.YtikophoopapngaaOpenX
set_option linter.unusedSimpArgs false
set_option linter.unusedVariables false
namespace Go.Proofs.Ytikophoopapngaa
open Go.RowKit Go.Maps
set_option linter.unusedVariables false

def namesC (cs : List DC) : List ByteArray := ((cs.map DC.name).mergeSort fun x y => decide (x ≤ y)).map textOf
def NamesIs (w : World) (cs : List DC) (e : Ending) (w' : World) : Prop := ∃ v, e = .returned v ∧ Sl EStr w' (fun q => w.heap.size ≤ q) v (namesC cs) ∧ Ext w w'
/-- What is wanted of Names. -/
def NamesAll : Prop := ∀ (w : World) (B : BS) (d : Nat) (cs : List DC) (s : DSt), DiskIs w B d cs s → Calls Try.prog 18 #[.pointer (some ⟨d, 0, none⟩)] w (NamesIs w cs)
theorem namesC_length (cs : List DC) : (namesC cs).length = cs.length := by unfold namesC; simp
/-- A call. -/
structure DOp where
  kind : UInt8
  name : ByteArray
  b : List UInt8
  n : Int
def EDOp : El DOp := { size := 4, rd := fun w S cs o => ∃ bv, cs = [U8 o.kind, .string o.name, bv, .int .i64 o.n] ∧ BytesS w S bv o.b }
theorem EDOp.ok : EDOp.Ok where
  pos := by decide
  len := fun ⟨_, h, _⟩ => by subst h; rfl
  one := fun ⟨bv, h, hs⟩ u hu => by
    subst h
    obtain ⟨A, c, rfl, _⟩ := hs.shape
    simp at hu
    rcases hu with rfl | rfl | rfl | rfl <;> rfl
  keep := fun ⟨bv, h, hs⟩ hk hF => ⟨bv, h, hs.keep EU8.ok hk hF⟩
  more := fun ⟨bv, h, hs⟩ hS => ⟨bv, h, hs.more EU8.ok hS⟩

def Truth13 (w : World) (n : Nat) (e : Ending) (w' : World) : Prop := ∃ b : Bool, e = .returned (.bool b) ∧ (b = false → n ≤ 100) ∧ Ext w w'
set_option maxHeartbeats 3200000 in
theorem heavy13_ok (w : World) (S : BS) (v : Value) (l : List DOp) (h : Sl EDOp w S v l) :
    Calls Try.prog 17 #[v] w (Truth13 w l.length) := by
  obtain ⟨A, c, rfl, hlc, hcm⟩ := h.shape
  unfold maxLen at hcm
  have HA := hid h
  generalize hn : l.length = n at *
  have HN := hid hn
  clear h hn
  go_enter Try.func17, Try.ntmps17
  go_wp2_with fail
  go_loopw [3, 4] (fun x y wr => ∃ (z : Int) (j : Nat), x = .int .i64 z ∧ j ≤ n ∧ y = .int .i64 j ∧ Ext w wr) (fun _ y _ => n - (intOf y).toNat)
  case atStart => exact ⟨0, 0, rfl, by omega, rfl, Keep.refl _ _⟩
  case round =>
    obtain ⟨z, j, rfl, hj, rfl, hE⟩ := hrel
    have HE := hid hE
    by_cases hlt : j < n
    · obtain ⟨b1, o1, c0, rfl, _, _, hrd, hcell⟩ := (HA.out.ext EDOp.ok hE).at_ EDOp.ok (k := j) (by rw [HN.out]; exact hlt)
      generalize l[j]'(by rw [HN.out]; exact hlt) = t at *
      obtain ⟨bv, rfl, hb⟩ := hrd
      obtain ⟨A2, c2, rfl, _⟩ := hb.shape
      have e1 := hcell 1 _ rfl
      have e2 := hcell 2 _ rfl
      have hz : EDOp.size = 4 := rfl
      simp only [hz] at e1 e2
      have hjX : (j : Int) < n := by omega
      clear hcell hz hb hE
      go_wp2_with fail
      go_quiet (fail)
      have HE2 := hid (show Ext w (wr.drewN nq) from HE.out.drewN _)
      generalize wr.drewN nq = w2 at *
      clear e1 e2
      go_wp2
      exact ⟨⟨_, j + 1, rfl, by omega, by go_num, HE2.out⟩, by simp [intOf]; omega⟩
    · obtain rfl : j = n := by omega
      clear hE
      by_cases g1 : 100 < j
      · have g1X : decide ((100 : Int) < j) = true := by simp; omega
        clear g1
        go_wp2
        go_ret
        exact ⟨true, rfl, fun h => by simp at h, HE.out⟩
      · have HG := hid (show j ≤ 100 by omega)
        have g1X : decide ((100 : Int) < j) = false := by simp; omega
        clear g1
        obtain ⟨r, hr⟩ : ∃ r, decide ((5000 : Int) < z) = r := ⟨_, rfl⟩
        cases r with
        | true =>
          go_wp2
          go_ret
          exact ⟨true, by first | rfl | simp, fun h => by simp at h, HE.out⟩
        | false =>
          go_wp2
          go_ret
          exact ⟨false, by first | rfl | simp, fun _ => HG.out, HE.out⟩
end Go.Proofs.Ytikophoopapngaa
