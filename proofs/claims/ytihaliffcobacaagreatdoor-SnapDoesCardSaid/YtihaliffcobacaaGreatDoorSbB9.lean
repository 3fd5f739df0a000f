/- LawDeep: laid together. -/
import Derived.Test.YtihaliffcobacaaGreatDoorSbB8
import Derived.Test.YtihaliffcobacaaGreatDoorSbB7
set_option linter.unusedSimpArgs false
set_option linter.unusedVariables false
set_option maxHeartbeats 25600000
set_option maxRecDepth 20000
namespace Go.Proofs.YtihaliffcobacaaGreatDoor
open Go.RowKit
def SVd (d : Int) (x : V) : Prop := SV x ∧ (x.deep : Int) + d ≤ 6 ∧ VStr 40 x
def SVsd (d : Int) (xs : List V) : Prop := SVs xs ∧ ∀ y ∈ xs, (y.deep : Int) + (d + 1) ≤ 6 ∧ VStr 40 y
def SFsd (d : Int) (xs : List F) : Prop := SFs xs ∧ ∀ f ∈ xs, (f.v.deep : Int) + (d + 1) ≤ 6 ∧ FStr 40 f
def Asc40 (s : ByteArray) : Prop := Asc s ∧ s.size ≤ 40
theorem plain_asc40 (s : ByteArray) : Asc40 (textOf (plainL s)) := ⟨plain_asc s, by show (textOf _).size ≤ 40; unfold textOf; simp only [ByteArray.size, List.size_toArray]; exact plain_len s⟩
theorem svsd_nil (d : Int) : SVsd d [] := ⟨trivial, fun y h => by cases h⟩
theorem sfsd_nil (d : Int) : SFsd d [] := ⟨trivial, fun y h => by cases h⟩
theorem deeps_le {m : Int} : ∀ {xs : List V}, 0 ≤ m → (∀ y ∈ xs, (y.deep : Int) + 1 ≤ m) → (V.deeps xs : Int) ≤ m
 | [], h, _ => by rw [V.deeps]; exact h
 | y :: ys, h, hy => by
  rw [V.deeps]
  have h1 := hy y List.mem_cons_self
  have h2 := deeps_le (xs := ys) h fun z hz => hy z (List.mem_cons_of_mem _ hz)
  omega
theorem fdeeps_le {m : Int} : ∀ {xs : List F}, 0 ≤ m → (∀ f ∈ xs, (f.v.deep : Int) + 1 ≤ m) → (F.deeps xs : Int) ≤ m
 | [], h, _ => by rw [F.deeps]; exact h
 | f :: fs, h, hy => by
  rw [F.deeps]
  have h1 := hy f List.mem_cons_self
  have h2 := fdeeps_le (xs := fs) h fun z hz => hy z (List.mem_cons_of_mem _ hz)
  have h3 : f.deep = f.v.deep + 1 := by cases f; rw [F.deep]; rfl
  omega
theorem svd_flat {d : Int} (hd : d ≤ 6) {k : UInt8} {n : Int} {s : ByteArray} (h : KindOk k n s [] []) (hs : s.size ≤ 40) : SVd d (.mk k n s [] []) :=
 ⟨flat_sv h, by rw [V.deep]; simp only [V.deeps, F.deeps]; simpa using hd, by rw [VStr]; exact ⟨hs, by rw [VStrs]; trivial, by rw [FStrs]; trivial⟩⟩
theorem svd_list {d : Int} (hd : d ≤ 6) {xs : List V} (h : SVsd d xs) : SVd d (.mk 4 0 ⟨#[]⟩ xs []) :=
 ⟨by rw [SV]; exact ⟨.inr (.inr (.inr (.inr (.inl ⟨rfl, rfl, rfl, rfl⟩)))), h.1, by rw [SFs]; trivial, trivial⟩,
  by rw [V.deep]; have := deeps_le (m := 6 - d) (xs := xs) (by omega) fun y hy => by have := (h.2 y hy).1; omega
     simp only [F.deeps]; omega,
  by rw [VStr]; exact ⟨by decide, (VStrs_iff 40 _).2 fun y hy => (h.2 y hy).2, by rw [FStrs]; trivial⟩⟩
theorem svd_obj {d : Int} (hd : d ≤ 6) {xs : List F} (h : SFsd d xs) (hr : Rise xs) : SVd d (.mk 5 0 ⟨#[]⟩ [] xs) :=
 ⟨by rw [SV]; exact ⟨.inr (.inr (.inr (.inr (.inr ⟨rfl, rfl, rfl, rfl⟩)))), by rw [SVs]; trivial, h.1, hr⟩,
  by rw [V.deep]; have := fdeeps_le (m := 6 - d) (xs := xs) (by omega) fun y hy => by have := (h.2 y hy).1; omega
     simp only [V.deeps]; omega,
  by rw [VStr]; exact ⟨by decide, by rw [VStrs]; trivial, (FStrs_iff 40 _).2 fun y hy => (h.2 y hy).2⟩⟩
theorem svsd_snoc {d : Int} {xs : List V} {x : V} (h : SVsd d xs) (hx : SVd (d + 1) x) : SVsd d (xs ++ [x]) :=
 ⟨(SVs_iff _).2 fun y hy => by
   rcases List.mem_append.1 hy with hy | hy
   ·exact (SVs_iff _).1 h.1 y hy
   ·rw [List.mem_singleton.1 hy]; exact hx.1, fun y hy => by
   rcases List.mem_append.1 hy with hy | hy
   ·exact h.2 y hy
   ·rw [List.mem_singleton.1 hy]; exact hx.2⟩
theorem sfsd_with {d : Int} {xs : List F} {key : ByteArray} {x : V} (h : SFsd d xs) (hk : Asc40 key) (hx : SVd (d + 1) x) : SFsd d (withL xs key x) :=
 ⟨withL_sfs h.1 hk.1 hx.1, fun f hf => by
  unfold withL at hf
  rcases List.mem_append.1 hf with hf | hf
  ·exact h.2 f (List.mem_of_mem_take hf)
  ·rcases List.mem_cons.1 hf with rfl | hf
   ·exact ⟨hx.2.1, (FStr_iff 40 _).2 ⟨hk.2, hx.2.2⟩⟩
   ·exact h.2 f (List.mem_of_mem_drop hf)⟩
end Go.Proofs.YtihaliffcobacaaGreatDoor
