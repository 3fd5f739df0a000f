/- Package disk: Used, fresh, by contract. -/
import Derived.Test.YtikophoopapngaaDiskR
set_option linter.unusedSimpArgs false
set_option linter.unusedVariables false
namespace Go.Proofs.Ytikophoopapngaa
open Go.RowKit Go.Maps
set_option linter.unusedVariables false

/-- The facts of a walk: the disk's cells. -/
theorem DiskAt.cells {w : World} {B : BS} {d m : Nat} {fs : List DF} {s : DSt} (h : DiskAt w B d m fs s) :
    w.cell? ⟨d, 0, none⟩ = some (.map (some m)) ∧ w.cell? ⟨d, 1, none⟩ = some (.int .i64 (s.room : Int)) ∧ w.cell? ⟨d, 2, none⟩ = some (.bool s.full) ∧ w.cell? ⟨d, 3, none⟩ = some (.int .i64 s.left) := by
  have hb := h.blk
  have c0 := hb.cell 0
  have c1 := hb.cell 1
  have c2 := hb.cell 2
  have c3 := hb.cell 3
  simp only [List.getElem?_toArray, List.getElem?_cons_succ, List.getElem?_cons_zero] at c0 c1 c2 c3
  exact ⟨c0, c1, c2, c3⟩
theorem FileAt.cells {w : World} {S : BS} {b : Nat} {c : DC} (h : FileAt w S b c) :
    ∃ A k, w.cell? ⟨b, 0, none⟩ = some (.slice A c.b.length k) ∧ w.cell? ⟨b, 1, none⟩ = some (.int .i64 (c.l : Int)) ∧ BytesS w S (.slice A c.b.length k) c.b ∧ c.l ≤ c.b.length ∧ c.b.length ≤ k ∧ k ≤ maxLen ∧ Blk w b TFIL #[.slice A c.b.length k, .int .i64 (c.l : Int)] := by
  obtain ⟨v, hb, hs, hl⟩ := h
  obtain ⟨A, k, rfl, h1, h2⟩ := hs.shape
  have c0 := hb.cell 0
  have c1 := hb.cell 1
  simp only [List.getElem?_toArray, List.getElem?_cons_succ, List.getElem?_cons_zero] at c0 c1
  exact ⟨A, k, c0, c1, hs, hl, h1, h2, hb⟩
theorem usedC_map (fs : List DF) : usedC (fs.map DF.c) = (fs.map fun f => f.c.b.length).sum := by
  unfold usedC; rw [List.map_map]; rfl

set_option maxHeartbeats 1600000 in
theorem disk_used (w : World) (B : BS) (d m : Nat) (fs : List DF) (s : DSt) (h : DiskAt w B d m fs s) (hu : usedC (fs.map DF.c) ≤ 1048576) :
    Calls Try.prog 16 #[.pointer (some ⟨d, 0, none⟩)] w fun e w' => e = .returned (.int .i64 (usedC (fs.map DF.c) : Int)) ∧ Ext w w' := by
  obtain ⟨c0, _, _, _⟩ := h.cells
  rw [usedC_map] at hu ⊢
  have HD := hid h
  clear h
  generalize hT : (fs.map fun f => f.c.b.length).sum = T at *
  have HT := hid hT
  clear hT
  go_enter Try.func16, Try.ntmps16
  go_wp2_with (first
    | (at_range; refine wpList_range_files rfl _ rfl m fs rfl HD.out.map ?_; intro w0 hrg0 hg0 hs0)
    | go_in)
  go_frame
  clear c0
  go_loopw [3] (fun x wr => ∃ (left : Lit → Bool) (cnt acc : Nat), RangeIs wr m w.heap.size fs left cnt ∧ x = .int .i64 (acc : Int) ∧ acc + sumLeft (fun f => f.c.b.length) fs left = T ∧ Ext w wr)
    (fun _ wr => wr.rangeLeft m w.heap.size)
  case atStart => exact ⟨_, _, 0, hrg0, rfl, by rw [sumLeft_all fun f hf => has_ent hf, HT.out]; omega, hg0⟩
  case round =>
    obtain ⟨left, cnt, acc, hrg, rfl, hacc, hE⟩ := hrel
    have HR := hid hrg
    have HA := hid hacc
    have HE := hid hE
    clear hrg hacc hE hrg0 hg0 hs0
    go_wp2_with (first
      | (at_next; refine wpList_next_files rfl _ rfl m w.heap.size fs left cnt rfl HR.out ?_ ?_)
      | go_in)
    · intro hl0
      have := HA.out
      rw [sumLeft_none hl0] at this
      obtain rfl : acc = T := by omega
      go_wp2
      go_ret
      exact ⟨rfl, HE.out⟩
    · intro f hf hlf w1 cnt1 hrg1 hlt hk1 hen
      have hk : Ext w w1 := HE.out.trans hk1 fun k h e => by omega
      obtain ⟨A, k, f0, f1, _⟩ := ((HD.out.files f hf).2.keep (hk) id fun _ _ x => x).cells
      have hst := sumLeft_step (g := fun f => f.c.b.length) HD.out.map.names hf hlf
      have hle : acc + f.c.b.length ≤ 1048576 := by have := HA.out; omega
      have HST := hid hst
      have HK := hid hk
      have HRG := hid hrg1
      have HLT := hid hlt
      clear hst hk hrg1 hlt hk1 f1
      go_wp2
      go_roundw
      case rel => exact ⟨_, cnt1, acc + f.c.b.length, HRG.out, by go_num, by have := HA.out; have := HST.out; omega, HK.out⟩
      case measure => rw [HRG.out.left_eq, HR.out.left_eq]; exact HLT.out
end Go.Proofs.Ytikophoopapngaa
