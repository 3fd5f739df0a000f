/- DiskC, DiskD, Concat: laid together. -/
import Derived.Test.YtihaliffcobacaaGreatDoorSbB15
import Derived.Test.YtihaliffcobacaaGreatDoorSbB7
import Derived.Test.YtihaliffcobacaaGreatDoorSbB4
set_option linter.unusedSimpArgs false
set_option linter.unusedVariables false
set_option maxHeartbeats 25600000
set_option maxRecDepth 20000
namespace Go.Proofs.YtihaliffcobacaaGreatDoor
open Go.RowKit Go.Maps
theorem DiskAt.cells {w : World} {B : BS} {d m : Nat} {fs : List DF} {s : DSt} (h : DiskAt w B d m fs s) :
  w.cell? ⟨d, 0, none⟩ = some (.map (some m)) ∧ w.cell? ⟨d, 1, none⟩ = some (.int .i64 (s.room : Int)) ∧ w.cell? ⟨d, 2, none⟩ = some (.bool s.full) ∧ w.cell? ⟨d, 3, none⟩ = some (.int .i64 s.left) := by
 have hb := h.blk
 have c0 := hb.cell 0
 have c1 := hb.cell 1
 have c2 := hb.cell 2
 have c3 := hb.cell 3
 simp only [List.getElem?_toArray, List.getElem?_cons_succ, List.getElem?_cons_zero] at c0 c1 c2 c3
 exact ⟨c0, c1, c2, c3⟩
theorem FileAt.cells {w : World} {S : BS} {b : Nat} {c : DC} (h : FileAt w S b c) :
  ∃ A k, w.cell? ⟨b, 0, none⟩ = some (.slice A c.b.length k) ∧ w.cell? ⟨b, 1, none⟩ = some (.int .i64 (c.l : Int)) ∧ BytesS w S (.slice A c.b.length k) c.b ∧ c.l ≤ c.b.length ∧ c.b.length ≤ k ∧ k ≤ maxLen ∧ Blk w b TFIL #[.slice A c.b.length k, .int .i64 (c.l : Int)] := by
 obtain ⟨v, hb, hs, hl⟩ := h
 obtain ⟨A, k, rfl, h1, h2⟩ := hs.shape
 have c0 := hb.cell 0
 have c1 := hb.cell 1
 simp only [List.getElem?_toArray, List.getElem?_cons_succ, List.getElem?_cons_zero] at c0 c1
 exact ⟨A, k, c0, c1, hs, hl, h1, h2, hb⟩
theorem usedC_map (fs : List DF) : usedC (fs.map DF.c) = (fs.map fun f => f.c.b.length).sum := by
 unfold usedC; rw [List.map_map]; rfl
theorem disk_used (w : World) (B : BS) (d m : Nat) (fs : List DF) (s : DSt) (h : DiskAt w B d m fs s) (hu : usedC (fs.map DF.c) ≤ 1048576) :
  Calls Tryz.prog 35 #[.pointer (some ⟨d, 0, none⟩)] w fun e w' => e = .returned (.int .i64 (usedC (fs.map DF.c) : Int)) ∧ Ext w w' := by
 obtain ⟨c0, _, _, _⟩ := h.cells
 rw [usedC_map] at hu ⊢
 have HD := hid h
 clear h
 generalize hT : (fs.map fun f => f.c.b.length).sum = T at *
 have HT := hid hT
 clear hT
 go_enter Tryz.func35, Tryz.ntmps35
 go_wp2_with (first
  | (at_range; refine wpList_range_files rfl _ rfl m fs rfl HD.out.map ?_; intro w0 hrg0 hg0 hs0)
  | go_in)
 go_frame
 clear c0
 go_loopw [3] (fun x wr => ∃ (left : Lit → Bool) (cnt acc : Nat), RangeIs wr m w.heap.size fs left cnt ∧ x = .int .i64 (acc : Int) ∧ acc + sumLeft (fun f => f.c.b.length) fs left = T ∧ Ext w wr)
  (fun _ wr => wr.rangeLeft m w.heap.size)
 case atStart => exact ⟨_, _, 0, hrg0, rfl, by rw [sumLeft_all fun f hf => has_ent hf, HT.out]; omega, hg0⟩
 case round =>
  obtain ⟨left, cnt, acc, hrg, rfl, hacc, hE⟩ := hrel
  have HR := hid hrg
  have HA := hid hacc
  have HE := hid hE
  clear hrg hacc hE hrg0 hg0 hs0
  go_wp2_with (first
   | (at_next; refine wpList_next_files rfl _ rfl m w.heap.size fs left cnt rfl HR.out ?_ ?_)
   | go_in)
  ·intro hl0
   have := HA.out
   rw [sumLeft_none hl0] at this
   obtain rfl : acc = T := by omega
   go_wp2
   go_ret
   exact ⟨rfl, HE.out⟩
  ·intro f hf hlf w1 cnt1 hrg1 hlt hk1 hen
   have hk : Ext w w1 := HE.out.trans hk1 fun k h e => by omega
   obtain ⟨A, k, f0, f1, _⟩ := ((HD.out.files f hf).2.keep (hk) id fun _ _ x => x).cells
   have hst := sumLeft_step (g := fun f => f.c.b.length) HD.out.map.names hf hlf
   have hle : acc + f.c.b.length ≤ 1048576 := by have := HA.out; omega
   have HST := hid hst
   have HK := hid hk
   have HRG := hid hrg1
   have HLT := hid hlt
   clear hst hk hrg1 hlt hk1 f1
   go_wp2
   go_roundw
   case rel => exact ⟨_, cnt1, acc + f.c.b.length, HRG.out, by go_num, by have := HA.out; have := HST.out; omega, HK.out⟩
   case measure => rw [HRG.out.left_eq, HR.out.left_eq]; exact HLT.out
end Go.Proofs.YtihaliffcobacaaGreatDoor
namespace Go.Proofs.YtihaliffcobacaaGreatDoor
open Go.RowKit Go.Maps
def mayC (n : Nat) (name : List UInt8) : Bool := decide (n < 64) && !name.isEmpty && decide (name.length ≤ 30)
theorem disk_fresh (w : World) (B : BS) (d m : Nat) (fs : List DF) (s : DSt) (name : ByteArray) (h : DiskAt w B d m fs s) (hz : name.size ≤ 9223372036854775807) :
  Calls Tryz.prog 36 #[.pointer (some ⟨d, 0, none⟩), .string name] w fun e w' => e = .returned (.bool (mayC fs.length name.data.toList)) ∧ w = w' := by
 obtain ⟨c0, _, _, _⟩ := h.cells
 have hlen := World.ownsMap.len h.map TM 3
 have e0 : Maps.size (DataW.map (fs.map ent)) = fs.length := by simp [Maps.size]
 rw [e0] at hlen
 have hsz : name.data.toList.length = name.size := Array.length_toList
 have hle : name = ⟨#[]⟩ ∨ 0 < name.size := by
  rcases Nat.eq_zero_or_pos name.size with h0 | h0
  ·left
   cases name with
   | mk a => have : a.size = 0 := h0; rw [Array.eq_empty_of_size_eq_zero this]
  ·exact .inr h0
 obtain ⟨r, hr⟩ : ∃ r, mayC fs.length name.data.toList = r := ⟨_, rfl⟩
 rw [hr]
 unfold mayC at hr
 clear h e0
 generalize fs.length = n at *
 by_cases h1 : n < 64
 ·have h1X : decide ((n : Int) < 64) = true := by simp; omega
  rcases hle with rfl | hle
  ·obtain rfl : r = false := by rw [← hr]; simp
   clear h1 hsz hz hr
   go_enter Tryz.func36, Tryz.ntmps36
   go_wp2
   go_ret
   exact ⟨rfl, rfl⟩
  ·have hne : ¬ name.toList = [] := by
    intro e
    rw [ByteArray.toList_eq] at e
    rw [e] at hsz
    simp at hsz
    omega
   have hemp : name.data.toList.isEmpty = false := by
    rw [ByteArray.toList_eq] at hne
    simpa using hne
   by_cases h3 : name.size ≤ 30
   ·have h3X : (name.size : Int) ≤ 30 := by omega
    obtain rfl : r = true := by rw [← hr, hsz, hemp]; simp [h1, h3]
    have HX := hid h3X
    clear h1 h3 hsz hz hle hr hemp
    go_enter Tryz.func36, Tryz.ntmps36
    go_wp2
    go_ret
    exact ⟨by have := HX.out; first | rfl | (simp; omega), rfl⟩
   ·have h3X : ¬ (name.size : Int) ≤ 30 := by omega
    obtain rfl : r = false := by rw [← hr, hsz]; simp [h3]
    clear h1 h3 hsz hz hle hr hemp
    go_enter Tryz.func36, Tryz.ntmps36
    go_wp2
    go_ret
    exact ⟨by first | rfl | simp | (simp; omega), rfl⟩
 ·have h1X : decide ((n : Int) < 64) = false := by simp; omega
  obtain rfl : r = false := by rw [← hr]; simp [h1]
  clear h1 hsz hz hle hr
  go_enter Tryz.func36, Tryz.ntmps36
  go_wp2
  go_ret
  exact ⟨rfl, rfl⟩
def hasC (cs : List DC) (name : List UInt8) : Bool := cs.any fun c => c.name == name
def updC (g : DC → DC) (cs : List DC) (name : List UInt8) : List DC := cs.map fun c => if c.name = name then g c else c
def updF (g : DC → DC) (fs : List DF) (name : List UInt8) : List DF := fs.map fun f => if f.c.name = name then ⟨g f.c, f.blk⟩ else f
def insC (x : DC) : List DC → List DC
 | [] => [x]
 | y :: r => if bytesBefore x.name y.name then x :: y :: r else y :: insC x r
def fullC (cs : List DC) (s : DSt) (n : Nat) : Bool := !goesC s.left || s.full || decide ((s.room : Int) - usedC cs < n)
def moreC (b : List UInt8) (c : DC) : DC := { c with b := c.b ++ b }
def appR (cs : List DC) (s : DSt) (name b : List UInt8) : Int × List DC :=
 if fullC cs s b.length then (130, cs) else if hasC cs name then (0, updC (moreC b) cs name) else if mayC cs.length name then (0, insC ⟨name, b, 0⟩ cs) else (130, cs)
theorem updF_c (g : DC → DC) (fs : List DF) (name : List UInt8) : (updF g fs name).map DF.c = updC g (fs.map DF.c) name := by
 unfold updF updC
 rw [List.map_map, List.map_map]
 apply List.map_congr_left
 intro f _
 show DF.c (if f.c.name = name then ⟨g f.c, f.blk⟩ else f) = if f.c.name = name then g f.c else f.c
 split <;> rfl
theorem updF_blk (g : DC → DC) (fs : List DF) (name : List UInt8) : (updF g fs name).map DF.blk = fs.map DF.blk := by
 unfold updF
 rw [List.map_map]
 apply List.map_congr_left
 intro f _
 show DF.blk (if f.c.name = name then ⟨g f.c, f.blk⟩ else f) = f.blk
 split <;> rfl
theorem insF_c (x : DF) : ∀ fs : List DF, (insF x fs).map DF.c = insC x.c (fs.map DF.c)
 | [] => rfl
 | y :: r => by
  rw [insF, List.map_cons, insC]
  split
  ·rfl
  ·rw [List.map_cons, insF_c x r]
theorem hasC_map (fs : List DF) (n : List UInt8) : hasC (fs.map DF.c) n = (findF fs n).isSome := by
 unfold hasC findF
 rw [List.any_map, List.isSome_find?]
 rfl
theorem usedC_cons (c : DC) (cs : List DC) : usedC (c :: cs) = c.b.length + usedC cs := rfl
theorem usedC_ins (x : DC) : ∀ cs : List DC, usedC (insC x cs) = usedC cs + x.b.length
 | [] => by simp [insC, usedC]
 | y :: r => by
  rw [insC]
  split
  ·rw [usedC_cons, usedC_cons]; omega
  ·rw [usedC_cons, usedC_ins x r, usedC_cons]; omega
theorem insC_length (x : DC) : ∀ cs : List DC, (insC x cs).length = cs.length + 1
 | [] => rfl
 | y :: r => by
  rw [insC]
  split
  ·rfl
  ·rw [List.length_cons, insC_length x r, List.length_cons]
theorem mem_insC {x y : DC} : ∀ {cs : List DC}, y ∈ insC x cs ↔ y = x ∨ y ∈ cs
 | [] => by simp [insC]
 | z :: r => by
  rw [insC]
  split
  ·simp
  ·simp only [List.mem_cons, mem_insC (cs := r)]
   constructor
   ·rintro (h | h | h) <;> simp [h]
   ·rintro (h | h | h) <;> simp [h]
theorem updC_none (g : DC → DC) {cs : List DC} {n : List UInt8} (h : ∀ c ∈ cs, c.name ≠ n) : updC g cs n = cs := by
 unfold updC
 conv => rhs; rw [← List.map_id cs]
 exact List.map_congr_left fun c hc => by rw [if_neg (h c hc)]; rfl
theorem usedC_upd (g : DC → DC) : ∀ {cs : List DC}, cs.Pairwise (fun x y => x.name ≠ y.name) → ∀ {c : DC}, c ∈ cs → usedC (updC g cs c.name) + c.b.length = usedC cs + (g c).b.length
 | [], _, _, hc => by cases hc
 | x :: r, hp, c, hc => by
  obtain ⟨h1, h2⟩ := List.pairwise_cons.1 hp
  by_cases e : x.name = c.name
  ·have hx : x = c := by
    rcases List.mem_cons.1 hc with rfl | h
    ·rfl
    ·exact absurd e (h1 c h)
   subst hx
   have : updC g (x :: r) x.name = g x :: r := by
    have := updC_none g (cs := r) (n := x.name) fun y hy => (h1 y hy).symm
    unfold updC at this ⊢
    rw [List.map_cons, if_pos rfl, this]
   rw [this, usedC_cons, usedC_cons]; omega
  ·have hc' : c ∈ r := by
    rcases List.mem_cons.1 hc with rfl | h
    ·exact absurd rfl e
    ·exact h
   have ih := usedC_upd g h2 hc'
   have : updC g (x :: r) c.name = x :: updC g r c.name := by
    unfold updC
    rw [List.map_cons, if_neg e]
   rw [this, usedC_cons, usedC_cons]; omega
theorem ent_updF {g : DC → DC} (hg : ∀ c, (g c).name = c.name) (fs : List DF) (n : List UInt8) : (updF g fs n).map ent = fs.map ent := by
 unfold updF
 rw [List.map_map]
 apply List.map_congr_left
 intro f _
 show ent (if f.c.name = n then ⟨g f.c, f.blk⟩ else f) = ent f
 split
 ·show (Lit.string (g f.c).name, _) = _
  rw [hg]; rfl
 ·rfl
theorem MapIs.upd {w : World} {m : Nat} {fs : List DF} {g : DC → DC} (hg : ∀ c, (g c).name = c.name) (h : MapIs w m fs) (n : List UInt8) : MapIs w m (updF g fs n) := by
 unfold MapIs at h ⊢
 rw [ent_updF hg]
 have : (updF g fs n).length = fs.length := by unfold updF; simp
 rw [this]; exact h
theorem mem_updF {g : DC → DC} {fs : List DF} {n : List UInt8} {x : DF} (h : x ∈ updF g fs n) : ∃ f ∈ fs, x.blk = f.blk ∧ x = if f.c.name = n then ⟨g f.c, f.blk⟩ else f := by
 obtain ⟨f, hf, e⟩ := List.mem_map.1 h
 exact ⟨f, hf, by rw [← e]; split <;> rfl, e.symm⟩
theorem blk_updF {g : DC → DC} {fs : List DF} {n : List UInt8} {p : Nat → Prop} : (∀ x ∈ updF g fs n, p x.blk) ↔ ∀ x ∈ fs, p x.blk := by
 have := updF_blk g fs n
 constructor
 ·intro h x hx
  have : x.blk ∈ (updF g fs n).map DF.blk := by rw [this]; exact List.mem_map_of_mem hx
  obtain ⟨y, hy, e⟩ := List.mem_map.1 this
  rw [← e]; exact h y hy
 ·intro h x hx
  obtain ⟨f, hf, e, _⟩ := mem_updF hx
  rw [e]; exact h f hf
theorem apart_updF {g : DC → DC} {fs : List DF} {n : List UInt8} (h : fs.Pairwise fun f g => f.blk ≠ g.blk) : (updF g fs n).Pairwise fun f g => f.blk ≠ g.blk := by
 have h1 : (fs.map DF.blk).Pairwise (· ≠ ·) := List.pairwise_map.2 h
 rw [← updF_blk g fs n] at h1
 exact List.pairwise_map.1 h1
end Go.Proofs.YtihaliffcobacaaGreatDoor
namespace Go.Proofs.YtihaliffcobacaaGreatDoor
open Go.RowKit
theorem grow_nil_ok (n : Nat) (w : World) (hn : n ≤ 140737488355328) :
  Calls Tryz.prog 69 #[.slice none 0 0, .int .i64 (n : Int)] w fun e w' => ∃ v, e = .returned v ∧ Own EU8 w' w.heap.size 5 (fun _ => False) v [] ∧ Ext w w' := by
 rcases Nat.eq_zero_or_pos n with h0 | h0
 ·subst h0
  go_enter Tryz.func69, Tryz.ntmps69
  go_wp2
  go_ret
  exact ⟨_, rfl, Own.nil _ _ _ _, Keep.refl _ _⟩
 ·have hb : Tryz.t5.bytes = 1 := by kernel_rfl
  have hnc : Builtin.nextslicecap n 0 = n := by unfold Builtin.nextslicecap; rw [if_pos (by omega)]
  obtain ⟨c, hc⟩ : ∃ c, (Question.appendCap n 0 5).cut (w.tape w.drawn (Question.appendCap n 0 5)) = c := ⟨_, rfl⟩
  have hc1 : n ≤ c ∧ c ≤ 9223372036854775807 := by
   have he : c = n + w.tape w.drawn (Question.appendCap n 0 5) % (9223372036854775808 - n) := by rw [← hc]; rfl
   have : w.tape w.drawn (Question.appendCap n 0 5) % (9223372036854775808 - n) < 9223372036854775808 - n := Nat.mod_lt _ (by omega)
   omega
  obtain ⟨hc1, hc2⟩ := hc1
  have HC := hid hc2
  clear hc2
  go_enter Tryz.func69, Tryz.ntmps69
  go_wp2
  all_goals
   go_ret
   refine ⟨_, rfl, .inr ⟨w.heap.size, c, _, rfl, Nat.le_refl _, (Blk.new _ _ _), by simp, by simp only [maxLen]; exact HC.out, ?_, rfl⟩, ((Keep.refl _ _).alloc _).drew⟩
   simp [Builtin.zeroCells, EU8]
   omega
theorem sum_map_take (ls : List (List UInt8)) (k : Nat) (h : k < ls.length) : (ls.take (k + 1)).flatten.length = (ls.take k).flatten.length + ls[k].length := by
 rw [take_succ_get _ _ h, List.flatten_append, List.length_append]; simp
theorem flat_le (ls : List (List UInt8)) (k : Nat) : (ls.take k).flatten.length ≤ ls.flatten.length := by
 conv => rhs; rw [← List.take_append_drop k ls, List.flatten_append, List.length_append]
 omega
theorem concat_any (v : Value) (ls : List (List UInt8)) (S : BS) (w : World) (hv : Sl EBytes w S v ls) (hl : ls.flatten.length ≤ 140737488355328) :
  Calls Tryz.prog 37 #[v] w fun e w' => ∃ v', e = .returned v' ∧ Own EU8 w' w.heap.size 5 (fun _ => False) v' ls.flatten ∧ Ext w w' := by
 obtain ⟨A, c, rfl, h1, h2⟩ := hv.shape
 unfold maxLen at h2
 have HV := hid hv
 clear hv
 go_enter Tryz.func37, Tryz.ntmps37
 go_wp2
 go_loop [3, 11] (fun s i => ∃ k : Nat, k ≤ ls.length ∧ i = .int .i64 k ∧ s = .int .i64 ((ls.take k).flatten.length : Nat)) (fun _ i => ls.length - (intOf i).toNat)
 case atStart => exact ⟨0, by omega, rfl, rfl⟩
 case round =>
  obtain ⟨k, hk, rfl, rfl⟩ := hrel
  by_cases hlt : k < ls.length
  ·obtain ⟨b, off, c0, rfl, hb, hsz, ⟨u, rfl, hu⟩, hc⟩ := HV.out.at_ EBytes.ok hlt
   have hcell := hc 0 _ rfl
   obtain ⟨A', c', rfl, hlc', hcm'⟩ := hu.shape
   have hs := sum_map_take ls k hlt
   have hf := flat_le ls (k + 1)
   generalize (ls.take k).flatten.length = m at *
   have HS := hid hs
   have hm : m + ls[k].length ≤ 140737488355328 := by omega
   simp only [show EBytes.size = 1 from rfl, Nat.mul_one, Nat.add_zero] at hcell
   clear hs hf hc hu
   go_wp2
   exact ⟨⟨k + 1, by omega, by go_num, by rw [HS.out]; go_num⟩, by simp [intOf]; omega⟩
  ·obtain rfl : k = ls.length := by omega
   rw [List.take_length]
   generalize hN : ls.flatten.length = N at *
   have HN := hid hN
   clear hN
   go_wp2_with fail
   refine (grow_nil_ok _ _ hl).mono ?_
   rintro e w1 ⟨v1, rfl, hown, hE⟩
   obtain ⟨A1, c1, rfl, _⟩ := hown.shape
   have HO := hid hown
   have HE := hid hE
   clear hown hE
   go_wp2_with fail
   go_loopw [6, 27] (fun x y wr => ∃ (j : Nat), j ≤ ls.length ∧ y = .int .i64 j ∧ Own EU8 wr w.heap.size 5 (fun _ => False) x (ls.take j).flatten ∧ Ext w wr) (fun _ y _ => ls.length - (intOf y).toNat)
   case atStart => exact ⟨0, by omega, rfl, HO.out, HE.out⟩
   case round =>
    obtain ⟨j, hj, rfl, hown, hE⟩ := hrel
    obtain ⟨A2, c2, rfl, hl2, hc2⟩ := hown.shape
    by_cases hlt : j < ls.length
    ·obtain ⟨b, off, c0, rfl, hb, hsz, ⟨u, rfl, hu⟩, hc⟩ := (HV.out.more (S' := fun k => S k ∧ k < w.heap.size) EBytes.ok (fun k hk hs => ⟨hs, hk⟩) |>.ext EBytes.ok hE).at_ EBytes.ok hlt
     have hcell := hc 0 _ rfl
     obtain ⟨A', c', rfl, hlc', hcm'⟩ := hu.shape
     have hs := sum_map_take ls j hlt
     have hf := flat_le ls (j + 1)
     have hts := take_succ_get ls j hlt
     have HS := hid (show (ls.take (j + 1)).flatten = (ls.take j).flatten ++ ls[j] from by rw [hts, List.flatten_append]; simp)
     have hm : (ls.take j).flatten.length + ls[j].length ≤ 140737488355328 := by have := HN.out; omega
     simp only [show EBytes.size = 1 from rfl, Nat.mul_one, Nat.add_zero] at hcell
     have HO2 := hid hown
     have HE2 := hid hE
     have HU := hid hu
     clear hs hf hc hu hown hE hts
     generalize hm' : (ls.take j).flatten = m at *
     clear hm'
     go_wp2_with (at_builtin; refine wpList_own_append _ rfl (.tmp 31) (.tmp 32) EU8.ok ty_u8 rfl rfl rfl HO2.out HU.out ?c1 ?c2 ?c3 ?c4 ?_)
     case c1 => intro g hg; exact ⟨id, fun h => by have := (HO2.out.lt hg).1; have := h.2; omega⟩
     case c2 => rw [Nat.mul_one]; exact hm
     case c3 => simp only [maxLen]; omega
     case c4 => exact HE2.out.size
     intro v' w' hown' hk hb
     obtain ⟨A3, c3, rfl, hl3, hc3⟩ := hown'.shape
     have hk2 : Ext w w' := HE2.out.trans hk (fun k hlt e => by have := (HO2.out.lt e).1; omega)
     have HO3 := hid (own_u8 (S' := fun _ => False) hown')
     have HE3 := hid hk2
     rw [← HS.out] at HO3
     have hlen : (m ++ ls[j]).length = (ls.take (j + 1)).flatten.length := by rw [HS.out]
     rw [hlen]
     clear hown' hk hk2 hb hcell HO2 HU
     go_wp2
     exact ⟨⟨j + 1, by omega, by go_num, HO3.out, HE3.out⟩, by simp [intOf]; omega⟩
    ·obtain rfl : j = ls.length := by omega
     simp only [List.take_length] at hown ⊢
     have HO3 := hid hown
     have HE3 := hid hE
     clear hown hE
     go_wp2
     go_ret
     exact ⟨_, rfl, HO3.out, HE3.out⟩
end Go.Proofs.YtihaliffcobacaaGreatDoor
