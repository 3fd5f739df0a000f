/- Package disk: Crash, Halt, Halted, Full by contract. -/
import Derived.Test.YtikophoopapngaaDiskI
set_option linter.unusedSimpArgs false
set_option linter.unusedVariables false
namespace Go.Proofs.Ytikophoopapngaa
open Go.RowKit Go.Maps
set_option linter.unusedVariables false

/-- How much of a file a crash keeps; what it leaves. -/
def keptC (k : Nat) (c : DC) : Nat := c.l + min k (c.b.length - c.l)
def crashC (k : Nat) (c : DC) : DC := { c with b := c.b.take (keptC k c), l := keptC k c }
/-- Those that the range has met are crashed. -/
def halfF (k : Nat) (fs : List DF) (left : Lit → Bool) : List DF := fs.map fun f => if left (.string f.c.name) then f else ⟨crashC k f.c, f.blk⟩
theorem halfF_all {k : Nat} {fs : List DF} {left : Lit → Bool} (h : ∀ f ∈ fs, left (.string f.c.name) = true) : halfF k fs left = fs := by
  unfold halfF
  conv => rhs; rw [← List.map_id fs]
  exact List.map_congr_left fun f hf => by rw [if_pos (h f hf)]; rfl
theorem halfF_none {k : Nat} {fs : List DF} {left : Lit → Bool} (h : ∀ kl, left kl = false) : (halfF k fs left).map DF.c = (fs.map DF.c).map (crashC k) := by
  unfold halfF
  rw [List.map_map, List.map_map]
  exact List.map_congr_left fun f hf => by show DF.c (if _ then _ else _) = _; rw [if_neg (by simp [h])]; rfl
theorem halfF_name {k : Nat} {left : Lit → Bool} (f : DF) : (if left (.string f.c.name) then f else ⟨crashC k f.c, f.blk⟩ : DF).c.name = f.c.name := by split <;> rfl
theorem halfF_ent {k : Nat} {left : Lit → Bool} (fs : List DF) : (halfF k fs left).map ent = fs.map ent := by
  unfold halfF
  rw [List.map_map]
  exact List.map_congr_left fun f hf => by
    show ent (if _ then _ else _) = _
    split <;> rfl
theorem halfF_find {k : Nat} {fs : List DF} {left : Lit → Bool} (hp : fs.Pairwise fun f g => f.c.name ≠ g.c.name) {f : DF} (hf : f ∈ fs) (hl : left (.string f.c.name) = true) : findF (halfF k fs left) f.c.name = some f := by
  cases h : findF (halfF k fs left) f.c.name with
  | none =>
    exfalso
    exact findF_none h _ (List.mem_map_of_mem hf) (halfF_name f)
  | some g =>
    obtain ⟨h1, h2⟩ := findF_some h
    obtain ⟨x, hx, rfl⟩ := List.mem_map.1 h1
    rw [halfF_name] at h2
    obtain rfl := eq_of_pw (p := fun f : DF => f.c.name) hp hx hf h2
    rw [if_pos hl]
theorem halfF_step {k : Nat} {fs : List DF} {left : Lit → Bool} (hp : fs.Pairwise fun f g => f.c.name ≠ g.c.name) {f : DF} (hf : f ∈ fs) (hl : left (.string f.c.name) = true) :
    updF (crashC k) (halfF k fs left) f.c.name = halfF k fs (fun z => left z && !z.sameKey (.string f.c.name)) := by
  unfold updF halfF
  rw [List.map_map]
  refine List.map_congr_left fun x hx => ?_
  show (if (if left (.string x.c.name) then x else ⟨crashC k x.c, x.blk⟩ : DF).c.name = f.c.name then _ else _) = if (left (.string x.c.name) && !(x.c.name == f.c.name)) = true then x else _
  rw [halfF_name]
  by_cases e : x.c.name = f.c.name
  · obtain rfl := eq_of_pw (p := fun f : DF => f.c.name) hp hx hf e
    rw [if_pos rfl]
    simp [hl]
  · have : (x.c.name == f.c.name) = false := by simpa using e
    rw [if_neg e, this]
    simp

theorem crash_ok {cs : List DC} {s : DSt} {k : Nat} (h : DOk cs s) : DOk (cs.map (crashC k)) ⟨s.room, false, -1⟩ := by
  refine ⟨h.room, ?_, by rw [List.length_map]; exact h.many, ?_, ⟨show (-1 : Int) ≤ -1 by decide, show (-1 : Int) ≤ 9223372036854775807 by decide⟩⟩
  · refine Nat.le_trans ?_ h.used
    clear h
    induction cs with
    | nil => exact Nat.le_refl _
    | cons x r ih =>
      rw [List.map_cons, usedC_cons, usedC_cons]
      have : (crashC k x).b.length ≤ x.b.length := by show (x.b.take _).length ≤ _; rw [List.length_take]; omega
      omega
  · intro x hx
    obtain ⟨y, hy, rfl⟩ := List.mem_map.1 hx
    exact h.names y hy
def CrashIs (w : World) (B : BS) (d : Nat) (cs : List DC) (s : DSt) (keep : Int) (e : Ending) (w' : World) : Prop :=
  e = .returned (.tuple #[]) ∧ DiskIs w' B d (cs.map (crashC keep.toNat)) ⟨s.room, false, -1⟩ ∧ Keep B w w'
set_option maxHeartbeats 3200000 in
theorem disk_crash (w : World) (B : BS) (d : Nat) (cs : List DC) (s : DSt) (keep : Int) (h : DiskIs w B d cs s) :
    Calls Try.prog 13 #[.pointer (some ⟨d, 0, none⟩), .int .i64 keep] w (CrashIs w B d cs s keep) := by
  obtain ⟨h0, m, fs, hd, rfl⟩ := h
  obtain ⟨c0, _, _, _⟩ := hd.cells
  obtain ⟨kk, hkk⟩ : ∃ kk : Nat, keep.toNat = kk := ⟨_, rfl⟩
  have hmx : max keep (0 : Int) = (kk : Int) := by omega
  have HMX := hid hmx
  have HD := hid (hd.more (B' := fun k => B k ∧ k < w.heap.size) fun k hk h => ⟨h, hk⟩)
  have HOK := hid h0
  have HKK := hid hkk
  clear h0 hd hkk
  go_enter Try.func13, Try.ntmps13
  go_wp2_with (first
    | (at_range; refine wpList_range_files rfl _ rfl m fs rfl HD.out.map ?_; intro w0 hrg0 hg0 hs0)
    | go_in)
  go_frame
  clear c0
  have HRG0 := hid hrg0
  have HG0 := hid hg0
  clear hrg0 hg0 hs0
  go_loopw [5, 6] (fun _ _ wr => ∃ (left : Lit → Bool) (cnt : Nat), RangeIs wr m w.heap.size fs left cnt ∧ DiskAt wr (fun k => B k ∧ k < w.heap.size) d m (halfF kk fs left) s ∧ Keep B w wr)
    (fun _ _ wr => wr.rangeLeft m w.heap.size)
  case atStart => exact ⟨_, _, HRG0.out, by rw [halfF_all fun f hf => has_ent hf]; exact HD.out.keep HG0.out fun _ _ x => x, (Keep.refl _ _).ext HG0.out⟩
  case round =>
    obtain ⟨left, cnt, hrg, hda, hE⟩ := hrel
    have HR := hid hrg
    have HA := hid hda
    have HE := hid hE
    clear hrg hda hE
    go_wp2_with (first
      | (at_next; refine wpList_next_files rfl _ rfl m w.heap.size fs left cnt rfl HR.out ?_ ?_)
      | go_in)
    · intro hl0
      obtain ⟨_, _, c2, c3⟩ := HA.out.cells
      have hz := HA.out.blk.frozen
      go_wp2_with fail
      have hd2 := HA.out.setFull false
      obtain ⟨_, _, _, d3⟩ := hd2.cells
      refine (i64_store d 3 s.left (-1) _ d3 (hd2.blk.frozen 3)).mono ?_
      rintro e w3 ⟨rfl, rfl⟩
      have hd3 := hd2.setLeft (-1)
      have HD3 := hid (hd3.more (B' := B) fun k _ h => h.1)
      have HE3 := hid (((HE.out.trans ((Keep.refl (· = d) wr).set1 2 (.bool false)) fun k _ e => by subst e; exact HD.out.own.1)).trans ((Keep.refl (· = d) _).set1 3 (.int .i64 (-1))) fun k _ e => by subst e; exact HD.out.own.1)
      have HHN := hid (halfF_none (k := kk) (fs := fs) hl0)
      clear hd2 hd3 d3 c2 c3 hz hl0
      go_wp2_with fail
      go_end0
      refine ⟨rfl, ?_, HE3.out⟩
      rw [HKK.out, ← HHN.out]
      refine ⟨?_, m, _, HD3.out, rfl⟩
      rw [HHN.out]
      exact crash_ok HOK.out
    · intro f hf hlf w1 cnt1 hrg1 hlt hk1 hen
      have hda := HA.out.keep hk1 fun k hk e => by have := hk.2; omega
      have hff := halfF_find (k := kk) HD.out.map.names hf hlf
      obtain ⟨A, k, q0, q1, hs, hl, hk2, hk3, hb⟩ := (hda.files f (findF_some hff).1).2.cells
      have HFF := hid hff
      have HDA := hid hda
      have HS := hid hs
      have HBL := hid hb
      have HRG := hid hrg1
      have HLT := hid hlt
      have HF := hid hf
      have HLF := hid hlf
      have HE1 := hid (HE.out.trans hk1 fun k hk e => by omega)
      have HL := hid hl
      have HK2 := hid hk2
      have HLN := hid (show f.c.b.length ≤ 1048576 from Nat.le_trans (mem_usedC (List.mem_map_of_mem (f := DF.c) hf)) (Nat.le_trans HOK.out.used HOK.out.room))
      clear hda hff hs hb hrg1 hlt hk1 hf hlf hk3
      obtain ⟨n, hn⟩ : ∃ n, keptC kk f.c = n := ⟨_, rfl⟩
      have HN := hid hn
      unfold keptC at hn
      have e2 : IntKind.i64.wrap ((f.c.b.length : Int) - (f.c.l : Int)) = (f.c.b.length : Int) - (f.c.l : Int) := by have := HLN.out; rw [IntKind.wrap_i64]; omega
      have e3 : (f.c.l : Int) + min (kk : Int) ((f.c.b.length : Int) - (f.c.l : Int)) = (n : Int) := by omega
      have e4 : IntKind.i64.wrap ((f.c.l : Int) + min (kk : Int) ((f.c.b.length : Int) - (f.c.l : Int))) = (n : Int) := by have := HLN.out; rw [IntKind.wrap_i64]; omega
      have hcut := run_front3 f.c.b.length k n A (by omega)
      have ew : wrap64 (n : Int) = (n : Int) := by have := HLN.out; unfold wrap64; omega
      clear hn
      go_wp2_with fail
      go_quiet (fail)
      have HWq := hid (show Ext w1 (w1.drewN nq) from (Keep.refl _ _).drewN _)
      have hb2 := HBL.out.keep HWq.out id
      have q0' := hb2.cell 0
      have q1' := hb2.cell 1
      have hz := hb2.frozen
      simp only [List.getElem?_toArray, List.getElem?_cons_succ, List.getElem?_cons_zero] at q0' q1'
      have HB2 := hid hb2
      replace HDA := hid (HDA.out.keep HWq.out fun _ _ x => x)
      replace HRG := hid (HRG.out.keep HWq.out id id)
      replace HE1 := hid (HE1.out.ext HWq.out)
      replace HS := hid (HS.out.ext EU8.ok HWq.out)
      clear hb2 q0 q1 hen HWq e2 e3 e4 hmx
      generalize w1.drewN nq = w2 at *
      have hks : Keep (· = f.blk) w2 ((w2.setCell ⟨f.blk, 0, none⟩ (.slice A n n)).setCell ⟨f.blk, 1, none⟩ (.int .i64 (n : Int))) := ((Keep.refl _ _).set1 0 _).set1 1 _
      have hbf := (HB2.out.set_ 0 (.slice A n n)).set_ 1 (.int .i64 (n : Int))
      have hnl : n ≤ f.c.b.length := by have := HN.out; have := HL.out; unfold keptC at *; omega
      have hdn := HDA.out.setFile HFF.out hks (g := crashC kk) (fun _ => rfl) (v := .slice A n n) (by show Blk _ _ TFIL #[_, .int .i64 ((keptC kk f.c : Nat) : Int)]; rw [HN.out]; simpa using hbf)
        (by show BytesS _ _ _ (f.c.b.take (keptC kk f.c)); rw [HN.out]; exact BytesS.front HS.out hnl) (by show keptC kk f.c ≤ (f.c.b.take (keptC kk f.c)).length; rw [HN.out, List.length_take]; omega)
      rw [halfF_step HD.out.map.names HF.out HLF.out] at hdn
      have HDN := hid hdn
      have HEN := hid (HE1.out.trans hks fun k _ e => by subst e; exact (HD.out.files f HF.out).1.1)
      have HRN := hid (HRG.out.keep hks (fun e => (HD.out.ned HF.out).2 e.symm) (fun e => by have := (HD.out.files f HF.out).1.2; omega))
      clear hks hbf hnl hdn
      go_wp2
      go_roundw
      case rel => exact ⟨_, cnt1, HRN.out, HDN.out, HEN.out⟩
      case measure => rw [HRN.out.left_eq, HR.out.left_eq]; exact HLT.out
end Go.Proofs.Ytikophoopapngaa
