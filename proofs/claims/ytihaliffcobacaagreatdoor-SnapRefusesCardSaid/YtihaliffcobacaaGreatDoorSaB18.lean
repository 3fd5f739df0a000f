/- DiskJ, DiskK, LawAid0, DiskL, SnapQ, Sync, SumA, Sum, RefSum, FrameA: laid together. -/
import Derived.Test.YtihaliffcobacaaGreatDoorSaB17
import Derived.Test.YtihaliffcobacaaGreatDoorRows
import Derived.WalkKit
import Derived.OpenShut
import Derived.Test.YtihaliffcobacaaGreatDoorSaB3
import Derived.Test.YtihaliffcobacaaGreatDoorSaB12
import Derived.Test.YtihaliffcobacaaGreatDoorSaB1
import Derived.Tactics
import Derived.Tactics2
import Derived.Defers
import Derived.Laws.Pointers
import Derived.Laws.LoneSync
import Derived.RegionTactic
import Derived.RegionCalls
import Derived.ChangeAlike
import Derived.Test.YtihaliffcobacaaGreatDoorSaB11
import Derived.Test.YtihaliffcobacaaGreatDoorSaB6
import Derived.Test.YtihaliffcobacaaGreatDoorSaB4
set_option linter.unusedSimpArgs false
set_option linter.unusedVariables false
set_option maxHeartbeats 25600000
set_option maxRecDepth 20000
namespace Go.Proofs.YtihaliffcobacaaGreatDoor
open Go.RowKit Go.Maps
def keptC (k : Nat) (c : DC) : Nat := c.l + min k (c.b.length - c.l)
def crashC (k : Nat) (c : DC) : DC := { c with b := c.b.take (keptC k c), l := keptC k c }
def halfF (k : Nat) (fs : List DF) (left : Lit → Bool) : List DF := fs.map fun f => if left (.string f.c.name) then f else ⟨crashC k f.c, f.blk⟩
theorem halfF_all {k : Nat} {fs : List DF} {left : Lit → Bool} (h : ∀ f ∈ fs, left (.string f.c.name) = true) : halfF k fs left = fs := by
 unfold halfF
 conv => rhs; rw [← List.map_id fs]
 exact List.map_congr_left fun f hf => by rw [if_pos (h f hf)]; rfl
theorem halfF_none {k : Nat} {fs : List DF} {left : Lit → Bool} (h : ∀ kl, left kl = false) : (halfF k fs left).map DF.c = (fs.map DF.c).map (crashC k) := by
 unfold halfF
 rw [List.map_map, List.map_map]
 exact List.map_congr_left fun f hf => by show DF.c (if _ then _ else _) = _; rw [if_neg (by simp [h])]; rfl
theorem halfF_name {k : Nat} {left : Lit → Bool} (f : DF) : (if left (.string f.c.name) then f else ⟨crashC k f.c, f.blk⟩ : DF).c.name = f.c.name := by split <;> rfl
theorem halfF_find {k : Nat} {fs : List DF} {left : Lit → Bool} (hp : fs.Pairwise fun f g => f.c.name ≠ g.c.name) {f : DF} (hf : f ∈ fs) (hl : left (.string f.c.name) = true) : findF (halfF k fs left) f.c.name = some f := by
 cases h : findF (halfF k fs left) f.c.name with
 | none =>
  exfalso
  exact findF_none h _ (List.mem_map_of_mem hf) (halfF_name f)
 | some g =>
  obtain ⟨h1, h2⟩ := findF_some h
  obtain ⟨x, hx, rfl⟩ := List.mem_map.1 h1
  rw [halfF_name] at h2
  obtain rfl := eq_of_pw (p := fun f : DF => f.c.name) hp hx hf h2
  rw [if_pos hl]
theorem halfF_step {k : Nat} {fs : List DF} {left : Lit → Bool} (hp : fs.Pairwise fun f g => f.c.name ≠ g.c.name) {f : DF} (hf : f ∈ fs) (hl : left (.string f.c.name) = true) :
  updF (crashC k) (halfF k fs left) f.c.name = halfF k fs (fun z => left z && !z.sameKey (.string f.c.name)) := by
 unfold updF halfF
 rw [List.map_map]
 refine List.map_congr_left fun x hx => ?_
 show (if (if left (.string x.c.name) then x else ⟨crashC k x.c, x.blk⟩ : DF).c.name = f.c.name then _ else _) = if (left (.string x.c.name) && !(x.c.name == f.c.name)) = true then x else _
 rw [halfF_name]
 by_cases e : x.c.name = f.c.name
 ·obtain rfl := eq_of_pw (p := fun f : DF => f.c.name) hp hx hf e
  rw [if_pos rfl]
  simp [hl]
 ·have : (x.c.name == f.c.name) = false := by simpa using e
  rw [if_neg e, this]
  simp
theorem crash_ok {cs : List DC} {s : DSt} {k : Nat} (h : DOk cs s) : DOk (cs.map (crashC k)) ⟨s.room, false, -1⟩ := by
 refine ⟨h.room, ?_, by rw [List.length_map]; exact h.many, ?_, ⟨show (-1 : Int) ≤ -1 by decide, show (-1 : Int) ≤ 9223372036854775807 by decide⟩⟩
 ·refine Nat.le_trans ?_ h.used
  clear h
  induction cs with
  | nil => exact Nat.le_refl _
  | cons x r ih =>
   rw [List.map_cons, usedC_cons, usedC_cons]
   have : (crashC k x).b.length ≤ x.b.length := by show (x.b.take _).length ≤ _; rw [List.length_take]; omega
   omega
 ·intro x hx
  obtain ⟨y, hy, rfl⟩ := List.mem_map.1 hx
  exact h.names y hy
def CrashIs (w : World) (B : BS) (d : Nat) (cs : List DC) (s : DSt) (keep : Int) (e : Ending) (w' : World) : Prop :=
 e = .returned (.tuple #[]) ∧ DiskIs w' B d (cs.map (crashC keep.toNat)) ⟨s.room, false, -1⟩ ∧ Keep B w w'
theorem disk_crash (w : World) (B : BS) (d : Nat) (cs : List DC) (s : DSt) (keep : Int) (h : DiskIs w B d cs s) :
  Calls Tryz.prog 15 #[.pointer (some ⟨d, 0, none⟩), .int .i64 keep] w (CrashIs w B d cs s keep) := by
 obtain ⟨h0, m, fs, hd, rfl⟩ := h
 obtain ⟨c0, _, _, _⟩ := hd.cells
 obtain ⟨kk, hkk⟩ : ∃ kk : Nat, keep.toNat = kk := ⟨_, rfl⟩
 have hmx : max keep (0 : Int) = (kk : Int) := by omega
 have HMX := hid hmx
 have HD := hid (hd.more (B' := fun k => B k ∧ k < w.heap.size) fun k hk h => ⟨h, hk⟩)
 have HOK := hid h0
 have HKK := hid hkk
 clear h0 hd hkk
 go_enter Tryz.func15, Tryz.ntmps15
 go_wp2_with (first
  | (at_range; refine wpList_range_files rfl _ rfl m fs rfl HD.out.map ?_; intro w0 hrg0 hg0 hs0)
  | go_in)
 go_frame
 clear c0
 have HRG0 := hid hrg0
 have HG0 := hid hg0
 clear hrg0 hg0 hs0
 go_loopw [5, 6] (fun _ _ wr => ∃ (left : Lit → Bool) (cnt : Nat), RangeIs wr m w.heap.size fs left cnt ∧ DiskAt wr (fun k => B k ∧ k < w.heap.size) d m (halfF kk fs left) s ∧ Keep B w wr)
  (fun _ _ wr => wr.rangeLeft m w.heap.size)
 case atStart => exact ⟨_, _, HRG0.out, by rw [halfF_all fun f hf => has_ent hf]; exact HD.out.keep HG0.out fun _ _ x => x, (Keep.refl _ _).ext HG0.out⟩
 case round =>
  obtain ⟨left, cnt, hrg, hda, hE⟩ := hrel
  have HR := hid hrg
  have HA := hid hda
  have HE := hid hE
  clear hrg hda hE
  go_wp2_with (first
   | (at_next; refine wpList_next_files rfl _ rfl m w.heap.size fs left cnt rfl HR.out ?_ ?_)
   | go_in)
  ·intro hl0
   obtain ⟨_, _, c2, c3⟩ := HA.out.cells
   have hz := HA.out.blk.frozen
   go_wp2_with fail
   have hd2 := HA.out.setFull false
   obtain ⟨_, _, _, d3⟩ := hd2.cells
   refine (i64_store d 3 s.left (-1) _ d3 (hd2.blk.frozen 3)).mono ?_
   rintro e w3 ⟨rfl, rfl⟩
   have hd3 := hd2.setLeft (-1)
   have HD3 := hid (hd3.more (B' := B) fun k _ h => h.1)
   have HE3 := hid (((HE.out.trans ((Keep.refl (· = d) wr).set1 2 (.bool false)) fun k _ e => by subst e; exact HD.out.own.1)).trans ((Keep.refl (· = d) _).set1 3 (.int .i64 (-1))) fun k _ e => by subst e; exact HD.out.own.1)
   have HHN := hid (halfF_none (k := kk) (fs := fs) hl0)
   clear hd2 hd3 d3 c2 c3 hz hl0
   go_wp2_with fail
   go_end0
   refine ⟨rfl, ?_, HE3.out⟩
   rw [HKK.out, ← HHN.out]
   refine ⟨?_, m, _, HD3.out, rfl⟩
   rw [HHN.out]
   exact crash_ok HOK.out
  ·intro f hf hlf w1 cnt1 hrg1 hlt hk1 hen
   have hda := HA.out.keep hk1 fun k hk e => by have := hk.2; omega
   have hff := halfF_find (k := kk) HD.out.map.names hf hlf
   obtain ⟨A, k, q0, q1, hs, hl, hk2, hk3, hb⟩ := (hda.files f (findF_some hff).1).2.cells
   have HFF := hid hff
   have HDA := hid hda
   have HS := hid hs
   have HBL := hid hb
   have HRG := hid hrg1
   have HLT := hid hlt
   have HF := hid hf
   have HLF := hid hlf
   have HE1 := hid (HE.out.trans hk1 fun k hk e => by omega)
   have HL := hid hl
   have HK2 := hid hk2
   have HLN := hid (show f.c.b.length ≤ 1048576 from Nat.le_trans (mem_usedC (List.mem_map_of_mem (f := DF.c) hf)) (Nat.le_trans HOK.out.used HOK.out.room))
   clear hda hff hs hb hrg1 hlt hk1 hf hlf hk3
   obtain ⟨n, hn⟩ : ∃ n, keptC kk f.c = n := ⟨_, rfl⟩
   have HN := hid hn
   unfold keptC at hn
   have e2 : IntKind.i64.wrap ((f.c.b.length : Int) - (f.c.l : Int)) = (f.c.b.length : Int) - (f.c.l : Int) := by have := HLN.out; rw [IntKind.wrap_i64]; omega
   have e3 : (f.c.l : Int) + min (kk : Int) ((f.c.b.length : Int) - (f.c.l : Int)) = (n : Int) := by omega
   have e4 : IntKind.i64.wrap ((f.c.l : Int) + min (kk : Int) ((f.c.b.length : Int) - (f.c.l : Int))) = (n : Int) := by have := HLN.out; rw [IntKind.wrap_i64]; omega
   have hcut := run_front3 f.c.b.length k n A (by omega)
   have ew : wrap64 (n : Int) = (n : Int) := by have := HLN.out; unfold wrap64; omega
   clear hn
   go_wp2_with fail
   go_quiet (fail)
   have HWq := hid (show Ext w1 (w1.drewN nq) from (Keep.refl _ _).drewN _)
   have hb2 := HBL.out.keep HWq.out id
   have q0' := hb2.cell 0
   have q1' := hb2.cell 1
   have hz := hb2.frozen
   simp only [List.getElem?_toArray, List.getElem?_cons_succ, List.getElem?_cons_zero] at q0' q1'
   have HB2 := hid hb2
   replace HDA := hid (HDA.out.keep HWq.out fun _ _ x => x)
   replace HRG := hid (HRG.out.keep HWq.out id id)
   replace HE1 := hid (HE1.out.ext HWq.out)
   replace HS := hid (HS.out.ext EU8.ok HWq.out)
   clear hb2 q0 q1 hen HWq e2 e3 e4 hmx
   generalize w1.drewN nq = w2 at *
   have hks : Keep (· = f.blk) w2 ((w2.setCell ⟨f.blk, 0, none⟩ (.slice A n n)).setCell ⟨f.blk, 1, none⟩ (.int .i64 (n : Int))) := ((Keep.refl _ _).set1 0 _).set1 1 _
   have hbf := (HB2.out.set_ 0 (.slice A n n)).set_ 1 (.int .i64 (n : Int))
   have hnl : n ≤ f.c.b.length := by have := HN.out; have := HL.out; unfold keptC at *; omega
   have hdn := HDA.out.setFile HFF.out hks (g := crashC kk) (fun _ => rfl) (v := .slice A n n) (by show Blk _ _ TFIL #[_, .int .i64 ((keptC kk f.c : Nat) : Int)]; rw [HN.out]; simpa using hbf)
    (by show BytesS _ _ _ (f.c.b.take (keptC kk f.c)); rw [HN.out]; exact BytesS.front HS.out hnl) (by show keptC kk f.c ≤ (f.c.b.take (keptC kk f.c)).length; rw [HN.out, List.length_take]; omega)
   rw [halfF_step HD.out.map.names HF.out HLF.out] at hdn
   have HDN := hid hdn
   have HEN := hid (HE1.out.trans hks fun k _ e => by subst e; exact (HD.out.files f HF.out).1.1)
   have HRN := hid (HRG.out.keep hks (fun e => (HD.out.ned HF.out).2 e.symm) (fun e => by have := (HD.out.files f HF.out).1.2; omega))
   clear hks hbf hnl hdn
   go_wp2
   go_roundw
   case rel => exact ⟨_, cnt1, HRN.out, HDN.out, HEN.out⟩
   case measure => rw [HRN.out.left_eq, HR.out.left_eq]; exact HLT.out
end Go.Proofs.YtihaliffcobacaaGreatDoor
namespace Go.Proofs.YtihaliffcobacaaGreatDoor
open Go.RowKit Go.Maps
end Go.Proofs.YtihaliffcobacaaGreatDoor
namespace Go.Proofs.YtihaliffcobacaaGreatDoor
open Go.RowKit
theorem bounds_int {i : Int} (hi : (Lit.int .i64 i).wf = true) : -9223372036854775808 ≤ i ∧ i ≤ 9223372036854775807 := by
 simp [Lit.wf, IntKind.min, IntKind.max, IntKind.signed, IntKind.bits] at hi
 exact hi
theorem run_max0 (i : Int) (hi : (Lit.int .i64 i).wf = true) : ∃ i0 : Nat, (∀ w, (Builtin.max_ #[3, 3] 3 #[.int .i64 i, .int .i64 0]).run Tryz.prog w = .ok (.int .i64 i0) w) ∧ i0 ≤ maxLen := by
 refine ⟨(max i 0).toNat, fun w => ?_, ?_⟩
 ·rw [run_max_int2, show (((max i 0).toNat : Nat) : Int) = if 0 > i then 0 else i from by split <;> omega]
 ·have h := bounds_int hi
  simp only [maxLen]; omega
end Go.Proofs.YtihaliffcobacaaGreatDoor
namespace Go.Proofs.YtihaliffcobacaaGreatDoor
open Go.RowKit Go.Maps
structure DskW (w0 w : World) (B : BS) (d : Nat) (cs : List DC) (s : DSt) : Prop where
 is : DiskIs w B d cs s
 low : ∀ k, B k → w0.heap.size ≤ k ∧ k < w.heap.size
 ext : Ext w0 w
section
variable {w0 w w' : World} {B : BS} {d : Nat} {cs cs' : List DC} {s s' : DSt}
theorem DskW.step (h : DskW w0 w B d cs s) (hk : Keep B w w') (hd : DiskIs w' B d cs' s') : DskW w0 w' B d cs' s' :=
 ⟨hd, fun k hb => ⟨(h.low k hb).1, Nat.lt_of_lt_of_le (h.low k hb).2 hk.size⟩, h.ext.trans hk fun k hk hb => by have := (h.low k hb).1; omega⟩
theorem DskW.grow (h : DskW w0 w B d cs s) (hk : Keep B w w') (hd : DiskIs w' (moreB B w w') d cs' s') : DskW w0 w' (moreB B w w') d cs' s' :=
 ⟨hd, fun k hb => by
  have := hk.size; have := h.ext.size
  rcases hb with hb | hb
  ·have := h.low k hb; omega
  ·omega, h.ext.trans hk fun k hk hb => by have := (h.low k hb).1; omega⟩
theorem DskW.more (h : DskW w0 w B d cs s) (he : Ext w w') : DskW w0 w' B d cs s := ⟨h.is.ext he, fun k hb => ⟨(h.low k hb).1, Nat.lt_of_lt_of_le (h.low k hb).2 he.size⟩, h.ext.ext he⟩
end
theorem disk_new_w (w0 w : World) (R : Nat) (hR : R ≤ 1048576) (h0 : Ext w0 w) : Calls Tryz.prog 8 #[.int .i64 (R : Int)] w fun e w' => ∃ d B, e = .returned (.pointer (some ⟨d, 0, none⟩)) ∧ DskW w0 w' B d [] ⟨R, false, -1⟩ ∧ (∀ k, B k → w.heap.size ≤ k) ∧ Ext w w' :=
 (disk_new w R).mono fun e w' h => by
  unfold NewIs at h
  rw [if_pos (by omega)] at h
  obtain ⟨d, h1, _, h2, h3⟩ := h
  exact ⟨d, fun k => w.heap.size ≤ k ∧ k < w'.heap.size, h1, ⟨by rw [Int.toNat_natCast] at h2; exact h2, fun k hk => ⟨Nat.le_trans h0.size hk.1, hk.2⟩, h0.ext h3⟩, fun k hk => hk.1, h3⟩
theorem one_read {l : Nat} {nm a : List UInt8} : readR [⟨nm, a, l⟩] nm = (0, a) := by simp [readR, findC]
theorem one_crash {l k : Nat} {nm a : List UInt8} (h : l ≤ a.length) : [DC.mk nm a l].map (crashC k) = [⟨nm, a.take (l + min k (a.length - l)), l + min k (a.length - l)⟩] := rfl
end Go.Proofs.YtihaliffcobacaaGreatDoor
namespace Go.Proofs.YtihaliffcobacaaGreatDoor
open Go.RowKit
def snapT : ByteArray := ⟨#[46, 115, 110, 97, 112]⟩
def fileT (nm : ByteArray) : ByteArray := nm ++ snapT
def saveR (cs : List DC) (s : DSt) (nm : ByteArray) (sh : Sh) : Int × List DC × DSt :=
 if saveE nm sh ≠ 0 then (saveE nm sh, cs, s) else
 if (appR cs s (byt (fileT nm)) (frm (shB sh))).1 ≠ 0 then ((appR cs s (byt (fileT nm)) (frm (shB sh))).1, (appR cs s (byt (fileT nm)) (frm (shB sh))).2, { s with left := leftC s.left })
 else ((syncR (appR cs s (byt (fileT nm)) (frm (shB sh))).2 { s with left := leftC s.left } (byt (fileT nm))).1, (syncR (appR cs s (byt (fileT nm)) (frm (shB sh))).2 { s with left := leftC s.left } (byt (fileT nm))).2, { s with left := leftC (leftC s.left) })
theorem ShOk.code {sh : Sh} (h : ShOk sh) {nm : ByteArray} (h1 : 0 < nm.size) (h2 : nm.size ≤ 20) : saveE nm sh = 0 := by
 obtain ⟨a, b, c, d, _, e⟩ := h
 unfold saveE
 rw [if_neg (by omega), if_neg (by
  rintro ⟨x, y⟩
  rw [c x] at y
  exact absurd y (by decide)), if_neg (by rw [d]; exact fun h => h rfl), if_neg (by omega)]
theorem saveE_bad {nm : ByteArray} {sh : Sh} (h : sh.n < 0 ∨ 5000 < sh.n) : saveE nm sh = 150 := by
 unfold saveE
 rw [if_pos (by omega)]
theorem saveE_not {nm : ByteArray} {sh : Sh} (h : sh.there = false) (h2 : isZ sh.v = false) : saveE nm sh = 150 := by
 unfold saveE
 by_cases x : nm.size = 0 ∨ 20 < nm.size ∨ sh.n < 0 ∨ 5000 < sh.n
 ·rw [if_pos x]
 ·rw [if_neg x, if_pos ⟨h, h2⟩]
theorem saveR_bad {cs : List DC} {s : DSt} {nm : ByteArray} {sh : Sh} (h : saveE nm sh = 150) : saveR cs s nm sh = (150, cs, s) := by
 unfold saveR
 rw [h, if_pos (by decide)]
def oneF (nm : ByteArray) (ls : List (List UInt8)) : List DC := if ls = [] then [] else [⟨byt (fileT nm), rowsL ls, (rowsL ls).length⟩]
theorem usedC_one (nm : ByteArray) (ls : List (List UInt8)) : usedC (oneF nm ls) = (rowsL ls).length := by
 unfold oneF
 split
 ·next h => subst h; rfl
 ·simp [usedC]
theorem full_no {cs : List DC} {R n : Nat} (h : usedC cs + n ≤ R) : fullC cs ⟨R, false, -1⟩ n = false := by
 unfold fullC goesC
 simp only [Bool.or_false, bne_iff_ne, ne_eq, Bool.or_eq_false_iff, decide_eq_false_iff_not]
 refine ⟨by decide, by omega⟩
theorem file_size (nm : ByteArray) : (byt (fileT nm)).length = nm.size + 5 := by
 rw [byt_len]; unfold fileT; rw [ByteArray.size_append]; rfl
theorem app_one {nm : ByteArray} {ls : List (List UInt8)} {R : Nat} {b : List UInt8} (hn : nm.size ≤ 20) (hr : (rowsL ls).length + b.length ≤ R) :
  appR (oneF nm ls) ⟨R, false, -1⟩ (byt (fileT nm)) b = (0, [⟨byt (fileT nm), rowsL ls ++ b, if ls = [] then 0 else (rowsL ls).length⟩]) := by
 have hf := full_no (cs := oneF nm ls) (R := R) (n := b.length) (by rw [usedC_one]; exact hr)
 unfold appR
 rw [hf]
 simp only [Bool.false_eq_true, if_false]
 by_cases h : ls = []
 ·subst h
  have e : oneF nm [] = [] := rfl
  have hm : mayC 0 (byt (fileT nm)) = true := by
   have := file_size nm
   have h0 : (byt (fileT nm)).isEmpty = false := by
    cases hx : byt (fileT nm) with
    | nil => rw [hx] at this; simp at this
    | cons => rfl
   rw [byt_len] at this
   unfold mayC
   rw [h0]
   simp
   omega
  rw [e, if_neg (by unfold hasC; simp), if_pos (by exact hm)]
  rfl
 ·have e : oneF nm ls = [⟨byt (fileT nm), rowsL ls, (rowsL ls).length⟩] := by unfold oneF; rw [if_neg h]
  rw [e, if_pos (by unfold hasC; simp), if_neg h]
  unfold updC moreC
  simp
theorem save_one {nm : ByteArray} {ls : List (List UInt8)} {R : Nat} {sh : Sh} (h0 : 0 < nm.size) (hn : nm.size ≤ 20) (hs : ShOk sh) (hr : (rowsL ls).length + (8 + (shB sh).length) ≤ R) :
  saveR (oneF nm ls) ⟨R, false, -1⟩ nm sh = (0, oneF nm (ls ++ [shB sh]), ⟨R, false, -1⟩) := by
 have ha := app_one (b := frm (shB sh)) hn (by rw [frm_length]; exact hr)
 unfold saveR
 rw [hs.code h0 hn, ha]
 have hx : rowsL ls ++ frm (shB sh) = rowsL (ls ++ [shB sh]) := (rowsL_snoc _ _).symm
 have hlx : leftC (-1) = -1 := by decide
 have hsy : ∀ l, syncR [⟨byt (fileT nm), rowsL ls ++ frm (shB sh), l⟩] ⟨R, false, -1⟩ (byt (fileT nm)) = (0, oneF nm (ls ++ [shB sh])) := by
  intro l
  unfold syncR
  rw [if_neg (show ¬ goesC (-1) = false by decide), if_pos (by unfold hasC; simp)]
  unfold updC syncC oneF
  rw [if_neg (by simp)]
  simp [hx]
 simp only [hlx]
 rw [if_neg (by decide), if_neg (by decide), hsy]
theorem read_one (nm : ByteArray) (ls : List (List UInt8)) : (readR (oneF nm ls) (byt (fileT nm))).2 = rowsL ls := by
 unfold oneF
 split
 ·next h => subst h; rfl
 ·unfold readR findC
  simp
theorem save_full {cs : List DC} {R : Nat} {nm : ByteArray} {sh : Sh} (h : saveE nm sh = 0) : saveR cs ⟨R, true, -1⟩ nm sh = (130, cs, ⟨R, true, -1⟩) := by
 have ha : ∀ f b, appR cs ⟨R, true, -1⟩ f b = (130, cs) := fun f b => appR_full (by unfold fullC; simp)
 have hlx : leftC (-1) = -1 := by decide
 unfold saveR
 rw [h, if_neg (by decide)]
 simp only [ha, hlx]
 rw [if_pos (by decide)]
theorem race_disable (w : World) : (callFunc 163 #[]).run Tryz.prog w = .ok (.value (.tuple #[])) w := run_call_mark0 Tryz.func163 (by kernel_rfl) (by kernel_rfl) (by kernel_rfl) .disable (by kernel_rfl) w
theorem race_enable (w : World) : (callFunc 165 #[]).run Tryz.prog w = .ok (.value (.tuple #[])) w := run_call_mark0 Tryz.func165 (by kernel_rfl) (by kernel_rfl) (by kernel_rfl) .enable (by kernel_rfl) w
theorem race_acquire (a : Addr) (w : World) : (callFunc 166 #[.pointer (some a)]).run Tryz.prog w = .ok (.value (.tuple #[])) w := run_call_marked Tryz.func166 (by kernel_rfl) (by kernel_rfl) (by kernel_rfl) .acquire (by kernel_rfl) a w
theorem race_merge (a : Addr) (w : World) : (callFunc 168 #[.pointer (some a)]).run Tryz.prog w = .ok (.value (.tuple #[])) w := run_call_marked Tryz.func168 (by kernel_rfl) (by kernel_rfl) (by kernel_rfl) .releaseMerge (by kernel_rfl) a w
set_option maxRecDepth 100000 in
theorem store_deferred (a : Addr) (x : Value) (u : FrameMode) (w : World) (hc : w.cell? a = some x) (hz : w.frozen? a = false) :
  CallsD Tryz.prog 150 #[.pointer (some a), .bool true] u w fun e u' w' => u' = u ∧ (e = .returned (.tuple #[]) ∧ w' = w.drew.setCell a (.int .u32 1)) := by
 have hc' : w.drew.cell? a = some x := by go_simp
 have hz' : w.drew.frozen? a = false := by go_simp
 have hst := run_call_store (P := Tryz.prog) Tryz.func160 (by kernel_rfl) (by kernel_rfl) (by kernel_rfl) (by kernel_rfl) (k := .u32) (y := 1) hc' hz'
 go_enter_d Tryz.func150, Tryz.ntmps150
 go_wp2
 go_region_calls
 all_goals (go_end0; exact ⟨rfl, rfl⟩)
set_option maxRecDepth 100000 in
theorem unlock_deferred (a : Addr) (u : FrameMode) (w : World) (hc : w.cell? a = some (.int .i32 1)) (hz : w.frozen? a = false) :
  CallsD Tryz.prog 149 #[.pointer (some a)] u w fun e u' w' => u' = u ∧ (e = .returned (.tuple #[]) ∧ w' = w.setCell a (.int .i32 0)) := by
 have hd := race_disable
 have he := race_enable
 have hr := race_merge
 have hadd := run_call_add (P := Tryz.prog) Tryz.func169 (by kernel_rfl) (by kernel_rfl) (by kernel_rfl) .i32 (by kernel_rfl) (y := -1) (s := 0) hc hz (by simp [go_sem]; rfl)
 have hcv := run_convert_to_unsafe (P := Tryz.prog) (src := 237) (dst := 241) Tryz.underlying237 Tryz.underlying241 (by kernel_rfl) hc
 go_enter_d Tryz.func149, Tryz.ntmps149
 go_wp2
 go_end0
 go_wp2
 go_end0
 exact ⟨rfl, rfl⟩
set_option maxRecDepth 100000 in
theorem lock_free (a : Addr) (w : World) (hc : w.cell? a = some (.int .i32 0)) (hz : w.frozen? a = false) :
  Calls Tryz.prog 148 #[.pointer (some a)] w fun e w' => e = .returned (.tuple #[]) ∧ w' = w.setCell a (.int .i32 1) := by
 have hd := race_disable
 have he := race_enable
 have ha := race_acquire
 have hcas := run_call_cas_hit (P := Tryz.prog) Tryz.func164 (by kernel_rfl) (by kernel_rfl) (by kernel_rfl) .i32 (by kernel_rfl) (y := 1) hc hz
 have hc' : (w.setCell a (.int .i32 1)).cell? a = some (.int .i32 1) := World.cell?_setCell_same w a _ hc
 have hcv := run_convert_to_unsafe (P := Tryz.prog) (src := 237) (dst := 241) Tryz.underlying237 Tryz.underlying241 (by kernel_rfl) hc'
 go_enter Tryz.func148, Tryz.ntmps148
 go_wp2
 first | go_end0 | (simp only [Exit.inBlock, Exit.then]; refine bodyPost_ret (results_none rfl _ _ _) rfl ?_) | refine bodyPost_ret (results_none rfl _ _ _) rfl ?_
 go_wp2
 go_end0
 exact ⟨rfl, rfl⟩
theorem bool_load (a : Addr) (d : Int) (w : World) (h : w.cell? a = some (.int .u32 d)) :
  Calls Tryz.prog 129 #[.pointer (some a)] w fun e w' => e = .returned (.bool (d != 0)) ∧ w = w' := by
 have hl := run_call_load (P := Tryz.prog) Tryz.func147 (by kernel_rfl) (by kernel_rfl) (by kernel_rfl) .u32 (by kernel_rfl) h
 go_enter Tryz.func129, Tryz.ntmps129
 go_wp2
 go_ret
 exact ⟨rfl, rfl⟩
theorem u32_add (a : Addr) (n : Int) (w : World) (hc : w.cell? a = some (.int .u32 n)) (hz : w.frozen? a = false) :
  Calls Tryz.prog 131 #[.pointer (some a), .int .u32 1] w fun e w' => ∃ m, e = .returned (.int .u32 m) ∧ w' = w.setCell a (.int .u32 m) := by
 have hadd := run_call_add (P := Tryz.prog) Tryz.func151 (by kernel_rfl) (by kernel_rfl) (by kernel_rfl) .u32 (by kernel_rfl) (y := 1) (s := IntKind.u32.wrap (n + 1)) hc hz (by simp [go_sem])
 go_enter Tryz.func131, Tryz.ntmps131
 go_wp2
 go_ret
 exact ⟨_, rfl, rfl⟩
abbrev U32 (c : BitVec 32) : Value := .int .u32 (c.toNat : Int)
abbrev TAB : Nat := 155
def Tab (w : World) (b : Nat) (d st : Int) (k : Nat) : Prop :=
 ∃ cs : Array Value, Blk w b TAB cs ∧ cs.size = 260 ∧ cs[0]? = some (.int .u32 d) ∧ cs[1]? = some (.int .i32 st) ∧
  (∀ i, i < 256 → ∃ x : BitVec 32, cs[3 + i]? = some (U32 x) ∧ (i < k → x = crcTab i)) ∧ ∃ m, cs[259]? = some (.int .u32 m)
section
variable {w w' : World} {b : Nat} {d st : Int} {k : Nat}
theorem Tab.lt (h : Tab w b d st k) : b < w.heap.size := by obtain ⟨cs, h, _⟩ := h; exact h.lt
theorem Tab.done (h : Tab w b d st k) : w.cell? ⟨b, 0, none⟩ = some (.int .u32 d) := by
 obtain ⟨cs, h, _, h0, _⟩ := h; rw [h.cell, h0]
theorem Tab.lock (h : Tab w b d st k) : w.cell? ⟨b, 1, none⟩ = some (.int .i32 st) := by
 obtain ⟨cs, h, _, _, h0, _⟩ := h; rw [h.cell, h0]
theorem Tab.row (h : Tab w b d st k) {i : Nat} (hi : i < 256) : ∃ x : BitVec 32, w.cell? ⟨b, 3 + i, none⟩ = some (U32 x) ∧ (i < k → x = crcTab i) := by
 obtain ⟨cs, h, _, _, _, h0, _⟩ := h
 obtain ⟨x, h1, h2⟩ := h0 i hi
 exact ⟨x, by rw [h.cell, h1], h2⟩
theorem Tab.made (h : Tab w b d st k) : ∃ m, w.cell? ⟨b, 259, none⟩ = some (.int .u32 m) := by
 obtain ⟨cs, h, _, _, _, _, m, h0⟩ := h; exact ⟨m, by rw [h.cell, h0]⟩
theorem Tab.free (h : Tab w b d st k) (i : Nat) : w.frozen? ⟨b, i, none⟩ = false := by obtain ⟨cs, h, _⟩ := h; exact h.frozen i
theorem Tab.drew (h : Tab w b d st k) : Tab w.drew b d st k := h
theorem Tab.set_done (h : Tab w b d st k) (e : Int) : Tab (w.setCell ⟨b, 0, none⟩ (.int .u32 e)) b e st k := by
 obtain ⟨cs, h, hs, h0, h1, h2, m, h3⟩ := h
 refine ⟨_, h.set_ 0 _, by simpa using hs, by simp [hs], by simpa using h1, fun i hi => ?_, m, by simpa using h3⟩
 obtain ⟨x, a1, a2⟩ := h2 i hi
 exact ⟨x, by rw [Array.getElem?_setIfInBounds_ne (by omega)]; exact a1, a2⟩
theorem Tab.set_lock (h : Tab w b d st k) (e : Int) : Tab (w.setCell ⟨b, 1, none⟩ (.int .i32 e)) b d e k := by
 obtain ⟨cs, h, hs, h0, h1, h2, m, h3⟩ := h
 refine ⟨_, h.set_ 1 _, by simpa using hs, by simpa using h0, by simp [hs], fun i hi => ?_, m, by simpa using h3⟩
 obtain ⟨x, a1, a2⟩ := h2 i hi
 exact ⟨x, by rw [Array.getElem?_setIfInBounds_ne (by omega)]; exact a1, a2⟩
theorem Tab.set_made (h : Tab w b d st k) (e : Int) : Tab (w.setCell ⟨b, 259, none⟩ (.int .u32 e)) b d st k := by
 obtain ⟨cs, h, hs, h0, h1, h2, m, h3⟩ := h
 refine ⟨_, h.set_ 259 _, by simpa using hs, by simpa using h0, by simpa using h1, fun i hi => ?_, e, by simp [hs]⟩
 obtain ⟨x, a1, a2⟩ := h2 i hi
 exact ⟨x, by rw [Array.getElem?_setIfInBounds_ne (by omega)]; exact a1, a2⟩
theorem Tab.set_row (h : Tab w b d st k) (hk : k < 256) : Tab (w.setCell ⟨b, 3 + k, none⟩ (U32 (crcTab k))) b d st (k + 1) := by
 obtain ⟨cs, h, hs, h0, h1, h2, m, h3⟩ := h
 refine ⟨_, h.set_ (3 + k) _, by simpa using hs, by rw [Array.getElem?_setIfInBounds_ne (by omega)]; exact h0, by rw [Array.getElem?_setIfInBounds_ne (by omega)]; exact h1, fun i hi => ?_, m,
  by rw [Array.getElem?_setIfInBounds_ne (by omega)]; exact h3⟩
 by_cases e : i = k
 ·subst e
  exact ⟨_, Array.getElem?_setIfInBounds_self_of_lt (by omega), fun _ => rfl⟩
 ·obtain ⟨x, a1, a2⟩ := h2 i hi
  exact ⟨x, by rw [Array.getElem?_setIfInBounds_ne (by omega)]; exact a1, fun _ => a2 (by omega)⟩
theorem Tab.keep {F : Nat → Prop} (h : Tab w b d st k) (hb : Keep F w w') (hg : ¬ F b) : Tab w' b d st k := by
 obtain ⟨cs, h, hr⟩ := h; exact ⟨cs, h.keep hb hg, hr⟩
end
theorem bit_form (x : BitVec 32) : bits .xor .u32 ((x.toNat : Int) / 2) (3988292384 * bits .and .u32 (x.toNat : Int) 1 % 4294967296) = ((crcBit x).toNat : Int) := by
 have h1 := u32_and_nat x.toNat 1 x.isLt (by omega)
 rw [show ((1 : Nat) : Int) = 1 from rfl] at h1
 rw [h1]
 have h2 : (3988292384 * ((x.toNat &&& 1 : Nat) : Int) % 4294967296) = ((3988292384 * (x.toNat &&& 1) % 4294967296 : Nat) : Int) := by omega
 rw [h2, show ((x.toNat : Int) / 2) = ((x.toNat / 2 : Nat) : Int) from by omega, u32_xor_nat _ _ (by have := x.isLt; omega) (by omega)]
 congr 1
theorem int32_congr {a b : Int} (h : a = b) : Value.int .u32 a = .int .u32 b := by rw [h]
set_option maxRecDepth 100000 in
theorem fill_any (b : Nat) (w : World) (d st : Int) (hb : Tab w b d st 0) :
  Calls Tryz.prog 105 #[.pointer (some ⟨b, 0, none⟩)] w fun e w' => e = .returned (.tuple #[]) ∧ Tab w' b d st 256 ∧ Keep (· = b) w w' := by
 go_enter Tryz.func105, Tryz.ntmps105
 go_wp2
 go_loopw [5] (fun i w1 => ∃ k : Nat, k ≤ 256 ∧ i = .int .i64 k ∧ Tab w1 b d st k ∧ Keep (· = b) w w1) (fun i _ => 256 - (intOf i).toNat)
 case atStart => exact ⟨0, by omega, rfl, hb, Keep.refl _ _⟩
 case round =>
  obtain ⟨k, hk, rfl, hT, hK⟩ := hrel
  by_cases hlt : k < 256
  ·obtain ⟨x0, hx0, _⟩ := hT.row hlt
   have hf0 := hT.free (3 + k)
   go_wp2
   go_loop [3, 10] (fun c j => ∃ (j' : Nat), c = U32 (crcBits j' (BitVec.ofNat 32 k)) ∧ j = .int .i64 j' ∧ j' ≤ 8) (fun _ j => 8 - (intOf j).toNat)
   case atStart => exact ⟨0, int32_congr (by simp [crcBits]; omega), rfl, by omega⟩
   case round =>
    obtain ⟨j', rfl, rfl, hj⟩ := hrel
    by_cases hlt2 : j' < 8
    ·go_wp2
     go_round
     case rel => exact ⟨j' + 1, int32_congr (bit_form _), by go_num, by omega⟩
     case measure => simp [intOf]; omega
    ·obtain rfl : j' = 8 := by omega
     have hT1 := hT.set_row hlt
     obtain ⟨m, hm⟩ := hT1.made
     have hfr := hT1.free 259
     go_wp2_with fail
     refine (u32_add _ m _ hm hfr).mono ?_
     rintro e w' ⟨m', rfl, rfl⟩
     have hT2 := hT1.set_made m'
     have hK2 : Keep (· = b) w ((wr.setCell ⟨b, 3 + k, none⟩ (U32 (crcTab k))).setCell ⟨b, 259, none⟩ (.int .u32 m')) := (hK.set1 _ _).set1 _ _
     go_wp2
     go_roundw
     case rel => exact ⟨k + 1, by omega, by go_num, hT2, hK2⟩
     case measure => simp [intOf]; omega
  ·obtain rfl : k = 256 := by omega
   go_wp2
   go_end0
   exact ⟨rfl, hT, hK⟩
abbrev FILL (b : Nat) : Value := .func (.func 105) #[.pointer (some ⟨b, 0, none⟩)] #[]
set_option maxRecDepth 100000 in
theorem slow_any (b : Nat) (w : World) (hT : Tab w b 0 0 0) :
  Calls Tryz.prog 130 #[.pointer (some ⟨b, 0, none⟩), FILL b] w fun e w' => e = .returned (.tuple #[]) ∧ Tab w' b 1 0 256 ∧ Keep (· = b) w w' := by
 have h1 := hT.lock
 have f1 := hT.free 1
 have hT1 := hT.set_lock 1
 have K1 : Keep (· = b) w (w.setCell ⟨b, 1, none⟩ (.int .i32 1)) := (Keep.refl _ _).set1 _ _
 have hnot : ∀ (x : Bool) (w : World), (Op.unary .not (.bool x)).run Tryz.prog w = .ok (.bool (!x)) w := fun _ _ => rfl
 go_enter_defers Tryz.func130, Tryz.ntmps130
 go_wp2_with (go_at_call 148; refine (lock_free ⟨b, 1, none⟩ _ h1 f1).mono ?_; rintro e w' ⟨rfl, rfl⟩)
 refine (bool_load _ 0 _ hT1.done).mono ?_
 rintro e w' ⟨rfl, rfl⟩
 go_wp2_with fail
 refine (fill_any b _ 0 1 hT1).mono ?_
 rintro e w2 ⟨rfl, hT2, K2⟩
 go_wp2
 have hT3 := hT2.drew.set_done 1
 have hT4 := hT3.set_lock 0
 have K3 : Keep (· = b) w (w2.drew.setCell ⟨b, 0, none⟩ (.int .u32 1)) := ((K1.trans K2 (fun _ _ e => e)).drew).set1 _ _
 have K4 : Keep (· = b) w ((w2.drew.setCell ⟨b, 0, none⟩ (.int .u32 1)).setCell ⟨b, 1, none⟩ (.int .i32 0)) := K3.set1 _ _
 refine leaves_cons (f := 150) (args := #[.pointer (some ⟨b, 0, none⟩), .bool true]) (by simp) (by simp [go_sem]) ?_
 refine (store_deferred ⟨b, 0, none⟩ (.int .u32 0) .returning _ hT2.done (hT2.free 0)).mono ?_
 rintro e u' w'' ⟨rfl, rfl, rfl⟩
 refine leaves_cons (f := 149) (args := #[.pointer (some ⟨b, 1, none⟩)]) (by simp [settle]) (by simp [go_sem]) ?_
 refine (unlock_deferred ⟨b, 1, none⟩ _ _ hT3.lock (hT3.free 1)).mono ?_
 rintro e u' w'' ⟨rfl, rfl, rfl⟩
 simp [Leaves, settle, results, Tryz.results130]
 exact ⟨hT4, K4⟩
theorem do_first (b : Nat) (w : World) (hT : Tab w b 0 0 0) :
  Calls Tryz.prog 104 #[.pointer (some ⟨b, 0, none⟩), FILL b] w fun e w' => e = .returned (.tuple #[]) ∧ Tab w' b 1 0 256 ∧ Keep (· = b) w w' := by
 have h0 := hT.done
 have hnot : ∀ (x : Bool) (w : World), (Op.unary .not (.bool x)).run Tryz.prog w = .ok (.bool (!x)) w := fun _ _ => rfl
 go_enter Tryz.func104, Tryz.ntmps104
 go_wp2_with (go_at_call 129; refine (bool_load _ 0 _ h0).mono ?_; rintro e w' ⟨rfl, rfl⟩)
 refine (slow_any b _ hT).mono ?_
 rintro e w' ⟨rfl, hT', hK⟩
 go_wp2
 go_end0
 exact ⟨rfl, hT', hK⟩
theorem do_done (b : Nat) (f : Value) (w : World) (hT : Tab w b 1 0 256) :
  Calls Tryz.prog 104 #[.pointer (some ⟨b, 0, none⟩), f] w fun e w' => e = .returned (.tuple #[]) ∧ w = w' := by
 have h0 := hT.done
 have hnot : ∀ (x : Bool) (w : World), (Op.unary .not (.bool x)).run Tryz.prog w = .ok (.bool (!x)) w := fun _ _ => rfl
 go_enter Tryz.func104, Tryz.ntmps104
 go_wp2_with (go_at_call 129; refine (bool_load _ 1 _ h0).mono ?_; rintro e w' ⟨rfl, rfl⟩)
 go_end0
 exact ⟨rfl, rfl⟩
def zeroTab : Array Value := #[.int .u32 0, .int .i32 0, .int .u32 0] ++ Array.replicate 256 (.int .u32 0) ++ #[.int .u32 0]
theorem zero_tab (w : World) : (zeroValue TAB).run Tryz.prog w = .ok (.agg zeroTab) w := by kernel_rfl
theorem Tab.new (w : World) : Tab (w.alloc (.cells zeroTab TAB)) w.heap.size 0 0 0 := by
 refine ⟨_, Blk.new _ _ _, by simp [zeroTab], by simp [zeroTab], by simp [zeroTab], fun i hi => ⟨0#32, ?_, fun h => absurd h (by omega)⟩, 0, ?_⟩
 rotate_left
 ·unfold zeroTab; rw [Array.getElem?_append_right (by simp)]; simp
 unfold zeroTab
 rw [Array.getElem?_append_left (by simp; omega), Array.getElem?_append_right (by simp)]
 simp [hi]
theorem ret_int {k : IntKind} {a b : Int} (h : a = b) : Ending.returned (.int k a) = .returned (.int k b) := by rw [h]
theorem step_index (c : BitVec 32) (x : UInt8) : ∃ i : Nat, i < 256 ∧ bits .xor .u8 ((c.toNat : Int) % 256) (x.toNat : Int) = (i : Int) ∧
  bits .xor .u32 ((crcTab i).toNat : Int) ((c.toNat : Int) / 256) = ((crcStep c x.toBitVec).toNat : Int) := by
 refine ⟨(c.setWidth 8 ^^^ x.toBitVec).toNat, BitVec.isLt _, ?_, ?_⟩
 ·have h := u8_xor_nat (c.toNat % 256) x.toNat (by omega) x.toNat_lt
  rw [show (((c.toNat % 256 : Nat)) : Int) = (c.toNat : Int) % 256 from by omega] at h
  rw [h, BitVec.toNat_xor, BitVec.toNat_setWidth]
  rfl
 ·rw [← crcStep_eq]
  have h := u32_xor_nat (crcTab (c.setWidth 8 ^^^ x.toBitVec).toNat).toNat (c.toNat / 256) (BitVec.isLt _) (by have := c.isLt; omega)
  rw [show (((c.toNat / 256 : Nat)) : Int) = (c.toNat : Int) / 256 from by omega] at h
  rw [h, BitVec.toNat_xor (crcTab _), BitVec.toNat_ushiftRight, Nat.shiftRight_eq_div_pow]
set_option maxRecDepth 100000 in
theorem step_first (b : Nat) (c : BitVec 32) (x : UInt8) (w : World) (hT : Tab w b 0 0 0) :
  Calls Tryz.prog 82 #[.pointer (some ⟨b, 0, none⟩), U32 c, U8 x] w fun e w' => e = .returned (U32 (crcStep c x.toBitVec)) ∧ Tab w' b 1 0 256 ∧ Keep (· = b) w w' := by
 have hmf : ∀ (fn : Fn) (first cap : Array Value) (w : World), (Instr.makeFunc fn first cap).run Tryz.prog w = .ok (.func fn first cap) w := fun _ _ _ _ => rfl
 go_enter Tryz.func82, Tryz.ntmps82
 go_wp2_with fail
 refine (do_first b _ hT).mono ?_
 rintro e w' ⟨rfl, hT', hK⟩
 obtain ⟨i, hi, hx, hf⟩ := step_index c x
 obtain ⟨y, hy, hy'⟩ := hT'.row hi
 obtain rfl := hy' hi
 clear hy'
 go_wp2
 go_ret
 exact ⟨rfl, hT', hK⟩
set_option maxRecDepth 100000 in
theorem step_done (b : Nat) (c : BitVec 32) (x : UInt8) (w : World) (hT : Tab w b 1 0 256) :
  Calls Tryz.prog 82 #[.pointer (some ⟨b, 0, none⟩), U32 c, U8 x] w fun e w' => e = .returned (U32 (crcStep c x.toBitVec)) ∧ w = w' := by
 have hmf : ∀ (fn : Fn) (first cap : Array Value) (w : World), (Instr.makeFunc fn first cap).run Tryz.prog w = .ok (.func fn first cap) w := fun _ _ _ _ => rfl
 go_enter Tryz.func82, Tryz.ntmps82
 go_wp2_with fail
 refine (do_done b _ _ hT).mono ?_
 rintro e w' ⟨rfl, rfl⟩
 obtain ⟨i, hi, hx, hf⟩ := step_index c x
 obtain ⟨y, hy, hy'⟩ := hT.row hi
 obtain rfl := hy' hi
 clear hy'
 go_wp2
 go_ret
 exact ⟨rfl, rfl⟩
def TabOk (w : World) (b : Nat) : Prop := Tab w b 0 0 0 ∨ Tab w b 1 0 256
theorem step_any (b : Nat) (c : BitVec 32) (x : UInt8) (w : World) (hT : TabOk w b) :
  Calls Tryz.prog 82 #[.pointer (some ⟨b, 0, none⟩), U32 c, U8 x] w fun e w' => e = .returned (U32 (crcStep c x.toBitVec)) ∧ TabOk w' b ∧ Keep (· = b) w w' := by
 rcases hT with hT | hT
 ·exact (step_first b c x w hT).mono fun e w' ⟨h1, h2, h3⟩ => ⟨h1, .inr h2, h3⟩
 ·exact (step_done b c x w hT).mono fun e w' ⟨h1, h2⟩ => ⟨h1, .inr (h2 ▸ hT), h2 ▸ Keep.refl _ _⟩
theorem not_form (c : BitVec 32) : (bits .xor .u32 4294967295 (c.toNat : Int)) = (((~~~ c).toNat : Nat) : Int) := by
 have h := u32_xor_nat 4294967295 c.toNat (by omega) c.isLt
 rw [show ((4294967295 : Nat) : Int) = 4294967295 from rfl] at h
 rw [h]
 have : ~~~ c = BitVec.allOnes 32 ^^^ c := BitVec.not_def
 rw [this, BitVec.toNat_xor]
 rfl
theorem sum_any (B : Nat) (v : Value) (ls : List (List UInt8)) (w : World) (hv : Bytess w B v ls) :
  Calls Tryz.prog 58 #[v] w fun e w' => e = .returned (U32 (sumOf ls.flatten)) ∧ Ext w w' := by
 obtain ⟨A, c, rfl, hlc, hcm, _⟩ := hv.open_
 unfold maxLen at hcm
 have hz := zero_tab
 have hT0 := Tab.new w
 have hE0 : Ext w (w.alloc (.cells zeroTab TAB)) := (Keep.refl _ _).alloc _
 go_enter Tryz.func58, Tryz.ntmps58
 go_wp2
 clear hz
 go_loopw [4, 11] (fun s i w1 => ∃ k : Nat, k ≤ ls.length ∧ i = .int .i64 k ∧ s = U32 (crcOf (ls.take k).flatten) ∧ TabOk w1 w.heap.size ∧ Ext w w1) (fun _ i _ => ls.length - (intOf i).toNat)
 case atStart => exact ⟨0, by omega, rfl, rfl, .inl hT0, hE0⟩
 case round =>
  obtain ⟨k, hk, rfl, rfl, hT, hE⟩ := hrel
  by_cases hlt : k < ls.length
  ·obtain ⟨b, off, u, rfl, hb, hcell0, hu⟩ := hv.at_ hlt
   have hcell := (hE.cell (lt_of_cell hcell0) id).trans hcell0
   obtain ⟨A', c', rfl, hlc', hcm', _⟩ := hu.open_
   unfold maxLen at hcm'
   clear hcell0
   go_wp2
   clear hcell
   go_loopw [4, 17] (fun s j w1 => ∃ m : Nat, m ≤ ls[k].length ∧ j = .int .i64 m ∧ s = U32 (crcOf ((ls.take k).flatten ++ ls[k].take m)) ∧ TabOk w1 w.heap.size ∧ Ext w w1) (fun _ j _ => ls[k].length - (intOf j).toNat)
   case atStart => exact ⟨0, by omega, rfl, by simp, hT, hE⟩
   case round =>
    rename_i wo _
    obtain ⟨m, hm, rfl, rfl, hT1, hE1⟩ := hrel
    by_cases hlt2 : m < ls[k].length
    ·obtain ⟨b2, off2, rfl, hb2, hcell2⟩ := (hu.ext hE1).at_ hlt2
     go_wp2_with (go_at_call 82; refine (step_any _ _ _ _ hT1).mono ?_; rintro e w' ⟨rfl, hT2, hK2⟩)
     have hE2 : Ext w w' := hE1.trans hK2 fun k hk e => by omega
     go_roundw
     case rel => exact ⟨m + 1, by omega, by go_num, by rw [take_succ_get _ _ hlt2, ← List.append_assoc, crcOf_snoc], hT2, hE2⟩
     case measure => simp [intOf]; omega
    ·obtain rfl : m = ls[k].length := by omega
     go_wp2
     go_roundw
     case rel => exact ⟨k + 1, by omega, by go_num, by rw [take_succ_get _ _ hlt, List.flatten_append]; simp, hT1, hE1⟩
     case measure => simp [intOf]; omega
  ·obtain rfl : k = ls.length := by omega
   rw [List.take_length]
   go_wp2
   go_ret
   exact ⟨ret_int (not_form _), hE⟩
theorem four_cells (n : Nat) (h : n < 4294967296) : [Value.int .u8 ((n : Int) / 16777216), .int .u8 ((n : Int) / 65536 % 256), .int .u8 ((n : Int) / 256 % 256), .int .u8 ((n : Int) % 256)] = (fourL n).map U8 := by
 simp [fourL]
 omega
theorem four_new {w : World} (n : Nat) (h : n < 4294967296) (f : Nat × Nat) :
  BytesS (w.alloc (.cells #[.int .u8 ((n : Int) / 16777216), .int .u8 ((n : Int) / 65536 % 256), .int .u8 ((n : Int) / 256 % 256), .int .u8 ((n : Int) % 256)] 5 f)) (fun k => w.heap.size ≤ k) (.slice (some ⟨w.heap.size, 0, none⟩) 4 4) (fourL n) := by
 have e := four_cells n h
 refine ⟨(fourL n).map U8, ?_, U8_cells _⟩
 rw [← e]
 exact (RowS.new (w := w) (t := 5) (sz := 1) (n := 4) (cs := [_, _, _, _]) rfl (by simp [maxLen]) f).more fun k _ e => by subst e; exact Nat.le_refl _
theorem four_any (n : Nat) (hn : n < 4294967296) (w : World) :
  Calls Tryz.prog 57 #[.int .u32 (n : Int)] w fun e w' => ∃ v, e = .returned v ∧ BytesS w' (fun k => w.heap.size ≤ k) v (fourL n) ∧ Ext w w' := by
 go_enter Tryz.func57, Tryz.ntmps57
 go_wp2
 go_ret
 exact ⟨_, rfl, four_new n hn _, (Keep.refl _ _).alloc _⟩
theorem number_any (v : Value) (l : List UInt8) (S : BS) (w : World) (hv : BytesS w S v l) (hl : 4 ≤ l.length) :
  Calls Tryz.prog 106 #[v] w fun e w' => e = .returned (.int .u32 (numL l : Nat)) ∧ w = w' := by
 obtain ⟨A, c, rfl, h1, h2⟩ := hv.shape
 unfold maxLen at h2
 go_enter Tryz.func106, Tryz.ntmps106
 go_wp2
 go_loop [3, 9] (fun s i => ∃ k : Nat, k ≤ 4 ∧ i = .int .i64 k ∧ s = .int .u32 (numK (l.take k) : Nat)) (fun _ i => 4 - (intOf i).toNat)
 case atStart => exact ⟨0, by omega, rfl, rfl⟩
 case round =>
  obtain ⟨k, hk, rfl, rfl⟩ := hrel
  by_cases hlt : k < 4
  ·obtain ⟨b, off, rfl, hb, hsz, hc⟩ := bytesS_at hv (k := k) (by omega)
   have hlk := numK_lt k (l.take k) (by simp; omega)
   have hx := (l[k]'(by omega)).toNat_lt
   have hs := take_succ_get l k (by omega)
   generalize l[k]'(by omega) = x at *
   have HS := hid (show numK (l.take (k + 1)) = numK (l.take k) * 256 + x.toNat from by rw [hs, numK_snoc])
   clear hs
   have hm : numK (l.take k) < 16777216 := by
    have : (256 : Nat) ^ k ≤ 256 ^ 3 := Nat.pow_le_pow_right (by omega) (by omega)
    omega
   generalize numK (l.take k) = m at *
   clear hlk
   have ho : bits .or .u32 ((m : Int) * 256) (x.toNat : Int) = ((m * 256 + x.toNat : Nat) : Int) := by
    rw [show ((m : Int) * 256) = ((m * 256 : Nat) : Int) from by omega, u32_or_nat _ _ (by omega) (by omega)]
    congr 1
    have := Nat.shiftLeft_add_eq_or_of_lt (b := x.toNat) (i := 8) hx m
    rw [Nat.shiftLeft_eq] at this
    exact this.symm
   have HO := hid ho
   clear ho
   go_wp2
   exact ⟨⟨k + 1, by omega, by go_num, by rw [HO.out, HS.out]⟩, by simp [intOf]; omega⟩
  ·obtain rfl : k = 4 := by omega
   go_wp2
   go_ret
   exact ⟨rfl, rfl⟩
end Go.Proofs.YtihaliffcobacaaGreatDoor
