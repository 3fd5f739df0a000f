/- LawAid0, DiskL, SnapQ, Sync, SumA, Sum, RefSum, FrameA: laid together. -/
import Derived.Test.YtihaliffcobacaaGreatDoorRows
import Derived.WalkKit
import Derived.OpenShut
import Derived.Test.YtihaliffcobacaaGreatDoorSbB20
import Derived.Test.YtihaliffcobacaaGreatDoorSbB3
import Derived.Test.YtihaliffcobacaaGreatDoorSbB15
import Derived.Test.YtihaliffcobacaaGreatDoorSbB1
import Derived.Tactics
import Derived.Tactics2
import Derived.Defers
import Derived.Laws.Pointers
import Derived.Laws.LoneSync
import Derived.RegionTactic
import Derived.RegionCalls
import Derived.ChangeAlike
import Derived.Test.YtihaliffcobacaaGreatDoorSbB7
import Derived.Test.YtihaliffcobacaaGreatDoorSbB4
set_option linter.unusedSimpArgs false
set_option linter.unusedVariables false
set_option maxHeartbeats 25600000
set_option maxRecDepth 20000
namespace Go.Proofs.YtihaliffcobacaaGreatDoor
open Go.RowKit
theorem bounds_int {i : Int} (hi : (Lit.int .i64 i).wf = true) : -9223372036854775808 ≤ i ∧ i ≤ 9223372036854775807 := by
 simp [Lit.wf, IntKind.min, IntKind.max, IntKind.signed, IntKind.bits] at hi
 exact hi
end Go.Proofs.YtihaliffcobacaaGreatDoor
namespace Go.Proofs.YtihaliffcobacaaGreatDoor
open Go.RowKit Go.Maps
structure DskW (w0 w : World) (B : BS) (d : Nat) (cs : List DC) (s : DSt) : Prop where
 is : DiskIs w B d cs s
 low : ∀ k, B k → w0.heap.size ≤ k ∧ k < w.heap.size
 ext : Ext w0 w
section
variable {w0 w w' : World} {B : BS} {d : Nat} {cs cs' : List DC} {s s' : DSt}
theorem DskW.step (h : DskW w0 w B d cs s) (hk : Keep B w w') (hd : DiskIs w' B d cs' s') : DskW w0 w' B d cs' s' :=
 ⟨hd, fun k hb => ⟨(h.low k hb).1, Nat.lt_of_lt_of_le (h.low k hb).2 hk.size⟩, h.ext.trans hk fun k hk hb => by have := (h.low k hb).1; omega⟩
theorem DskW.grow (h : DskW w0 w B d cs s) (hk : Keep B w w') (hd : DiskIs w' (moreB B w w') d cs' s') : DskW w0 w' (moreB B w w') d cs' s' :=
 ⟨hd, fun k hb => by
  have := hk.size; have := h.ext.size
  rcases hb with hb | hb
  ·have := h.low k hb; omega
  ·omega, h.ext.trans hk fun k hk hb => by have := (h.low k hb).1; omega⟩
theorem DskW.more (h : DskW w0 w B d cs s) (he : Ext w w') : DskW w0 w' B d cs s := ⟨h.is.ext he, fun k hb => ⟨(h.low k hb).1, Nat.lt_of_lt_of_le (h.low k hb).2 he.size⟩, h.ext.ext he⟩
end
theorem disk_new_w (w0 w : World) (R : Nat) (hR : R ≤ 1048576) (h0 : Ext w0 w) : Calls Tryz.prog 8 #[.int .i64 (R : Int)] w fun e w' => ∃ d B, e = .returned (.pointer (some ⟨d, 0, none⟩)) ∧ DskW w0 w' B d [] ⟨R, false, -1⟩ ∧ (∀ k, B k → w.heap.size ≤ k) ∧ Ext w w' :=
 (disk_new w R).mono fun e w' h => by
  unfold NewIs at h
  rw [if_pos (by omega)] at h
  obtain ⟨d, h1, _, h2, h3⟩ := h
  exact ⟨d, fun k => w.heap.size ≤ k ∧ k < w'.heap.size, h1, ⟨by rw [Int.toNat_natCast] at h2; exact h2, fun k hk => ⟨Nat.le_trans h0.size hk.1, hk.2⟩, h0.ext h3⟩, fun k hk => hk.1, h3⟩
theorem one_read {l : Nat} {nm a : List UInt8} : readR [⟨nm, a, l⟩] nm = (0, a) := by simp [readR, findC]
theorem textOf_size (x : List UInt8) : (textOf x).size = x.length := by unfold textOf; simp [ByteArray.size]
theorem disk_used' (w : World) (B : BS) (d : Nat) (cs : List DC) (s : DSt) (h : DiskIs w B d cs s) :
  Calls Tryz.prog 35 #[.pointer (some ⟨d, 0, none⟩)] w fun e w' => e = .returned (.int .i64 (usedC cs : Int)) ∧ Ext w w' := by
 obtain ⟨h0, m, fs, hd, rfl⟩ := h
 exact disk_used w B d m fs s hd (Nat.le_trans h0.used h0.room)
end Go.Proofs.YtihaliffcobacaaGreatDoor
namespace Go.Proofs.YtihaliffcobacaaGreatDoor
open Go.RowKit
def snapT : ByteArray := ⟨#[46, 115, 110, 97, 112]⟩
def fileT (nm : ByteArray) : ByteArray := nm ++ snapT
def saveR (cs : List DC) (s : DSt) (nm : ByteArray) (sh : Sh) : Int × List DC × DSt :=
 if saveE nm sh ≠ 0 then (saveE nm sh, cs, s) else
 if (appR cs s (byt (fileT nm)) (frm (shB sh))).1 ≠ 0 then ((appR cs s (byt (fileT nm)) (frm (shB sh))).1, (appR cs s (byt (fileT nm)) (frm (shB sh))).2, { s with left := leftC s.left })
 else ((syncR (appR cs s (byt (fileT nm)) (frm (shB sh))).2 { s with left := leftC s.left } (byt (fileT nm))).1, (syncR (appR cs s (byt (fileT nm)) (frm (shB sh))).2 { s with left := leftC s.left } (byt (fileT nm))).2, { s with left := leftC (leftC s.left) })
theorem ShOk.code {sh : Sh} (h : ShOk sh) {nm : ByteArray} (h1 : 0 < nm.size) (h2 : nm.size ≤ 20) : saveE nm sh = 0 := by
 obtain ⟨a, b, c, d, _, e⟩ := h
 unfold saveE
 rw [if_neg (by omega), if_neg (by
  rintro ⟨x, y⟩
  rw [c x] at y
  exact absurd y (by decide)), if_neg (by rw [d]; exact fun h => h rfl), if_neg (by omega)]
theorem saveR_bad {cs : List DC} {s : DSt} {nm : ByteArray} {sh : Sh} (h : saveE nm sh = 150) : saveR cs s nm sh = (150, cs, s) := by
 unfold saveR
 rw [h, if_pos (by decide)]
def oneF (nm : ByteArray) (ls : List (List UInt8)) : List DC := if ls = [] then [] else [⟨byt (fileT nm), rowsL ls, (rowsL ls).length⟩]
theorem usedC_one (nm : ByteArray) (ls : List (List UInt8)) : usedC (oneF nm ls) = (rowsL ls).length := by
 unfold oneF
 split
 ·next h => subst h; rfl
 ·simp [usedC]
theorem full_no {cs : List DC} {R n : Nat} (h : usedC cs + n ≤ R) : fullC cs ⟨R, false, -1⟩ n = false := by
 unfold fullC goesC
 simp only [Bool.or_false, bne_iff_ne, ne_eq, Bool.or_eq_false_iff, decide_eq_false_iff_not]
 refine ⟨by decide, by omega⟩
theorem file_size (nm : ByteArray) : (byt (fileT nm)).length = nm.size + 5 := by
 rw [byt_len]; unfold fileT; rw [ByteArray.size_append]; rfl
theorem app_one {nm : ByteArray} {ls : List (List UInt8)} {R : Nat} {b : List UInt8} (hn : nm.size ≤ 20) (hr : (rowsL ls).length + b.length ≤ R) :
  appR (oneF nm ls) ⟨R, false, -1⟩ (byt (fileT nm)) b = (0, [⟨byt (fileT nm), rowsL ls ++ b, if ls = [] then 0 else (rowsL ls).length⟩]) := by
 have hf := full_no (cs := oneF nm ls) (R := R) (n := b.length) (by rw [usedC_one]; exact hr)
 unfold appR
 rw [hf]
 simp only [Bool.false_eq_true, if_false]
 by_cases h : ls = []
 ·subst h
  have e : oneF nm [] = [] := rfl
  have hm : mayC 0 (byt (fileT nm)) = true := by
   have := file_size nm
   have h0 : (byt (fileT nm)).isEmpty = false := by
    cases hx : byt (fileT nm) with
    | nil => rw [hx] at this; simp at this
    | cons => rfl
   rw [byt_len] at this
   unfold mayC
   rw [h0]
   simp
   omega
  rw [e, if_neg (by unfold hasC; simp), if_pos (by exact hm)]
  rfl
 ·have e : oneF nm ls = [⟨byt (fileT nm), rowsL ls, (rowsL ls).length⟩] := by unfold oneF; rw [if_neg h]
  rw [e, if_pos (by unfold hasC; simp), if_neg h]
  unfold updC moreC
  simp
theorem save_one {nm : ByteArray} {ls : List (List UInt8)} {R : Nat} {sh : Sh} (h0 : 0 < nm.size) (hn : nm.size ≤ 20) (hs : ShOk sh) (hr : (rowsL ls).length + (8 + (shB sh).length) ≤ R) :
  saveR (oneF nm ls) ⟨R, false, -1⟩ nm sh = (0, oneF nm (ls ++ [shB sh]), ⟨R, false, -1⟩) := by
 have ha := app_one (b := frm (shB sh)) hn (by rw [frm_length]; exact hr)
 unfold saveR
 rw [hs.code h0 hn, ha]
 have hx : rowsL ls ++ frm (shB sh) = rowsL (ls ++ [shB sh]) := (rowsL_snoc _ _).symm
 have hlx : leftC (-1) = -1 := by decide
 have hsy : ∀ l, syncR [⟨byt (fileT nm), rowsL ls ++ frm (shB sh), l⟩] ⟨R, false, -1⟩ (byt (fileT nm)) = (0, oneF nm (ls ++ [shB sh])) := by
  intro l
  unfold syncR
  rw [if_neg (show ¬ goesC (-1) = false by decide), if_pos (by unfold hasC; simp)]
  unfold updC syncC oneF
  rw [if_neg (by simp)]
  simp [hx]
 simp only [hlx]
 rw [if_neg (by decide), if_neg (by decide), hsy]
theorem read_one (nm : ByteArray) (ls : List (List UInt8)) : (readR (oneF nm ls) (byt (fileT nm))).2 = rowsL ls := by
 unfold oneF
 split
 ·next h => subst h; rfl
 ·unfold readR findC
  simp
theorem race_disable (w : World) : (callFunc 163 #[]).run Tryz.prog w = .ok (.value (.tuple #[])) w := run_call_mark0 Tryz.func163 (by kernel_rfl) (by kernel_rfl) (by kernel_rfl) .disable (by kernel_rfl) w
theorem race_enable (w : World) : (callFunc 165 #[]).run Tryz.prog w = .ok (.value (.tuple #[])) w := run_call_mark0 Tryz.func165 (by kernel_rfl) (by kernel_rfl) (by kernel_rfl) .enable (by kernel_rfl) w
theorem race_acquire (a : Addr) (w : World) : (callFunc 166 #[.pointer (some a)]).run Tryz.prog w = .ok (.value (.tuple #[])) w := run_call_marked Tryz.func166 (by kernel_rfl) (by kernel_rfl) (by kernel_rfl) .acquire (by kernel_rfl) a w
theorem race_merge (a : Addr) (w : World) : (callFunc 168 #[.pointer (some a)]).run Tryz.prog w = .ok (.value (.tuple #[])) w := run_call_marked Tryz.func168 (by kernel_rfl) (by kernel_rfl) (by kernel_rfl) .releaseMerge (by kernel_rfl) a w
set_option maxRecDepth 100000 in
theorem store_deferred (a : Addr) (x : Value) (u : FrameMode) (w : World) (hc : w.cell? a = some x) (hz : w.frozen? a = false) :
  CallsD Tryz.prog 150 #[.pointer (some a), .bool true] u w fun e u' w' => u' = u ∧ (e = .returned (.tuple #[]) ∧ w' = w.drew.setCell a (.int .u32 1)) := by
 have hc' : w.drew.cell? a = some x := by go_simp
 have hz' : w.drew.frozen? a = false := by go_simp
 have hst := run_call_store (P := Tryz.prog) Tryz.func160 (by kernel_rfl) (by kernel_rfl) (by kernel_rfl) (by kernel_rfl) (k := .u32) (y := 1) hc' hz'
 go_enter_d Tryz.func150, Tryz.ntmps150
 go_wp2
 go_region_calls
 all_goals (go_end0; exact ⟨rfl, rfl⟩)
set_option maxRecDepth 100000 in
theorem unlock_deferred (a : Addr) (u : FrameMode) (w : World) (hc : w.cell? a = some (.int .i32 1)) (hz : w.frozen? a = false) :
  CallsD Tryz.prog 149 #[.pointer (some a)] u w fun e u' w' => u' = u ∧ (e = .returned (.tuple #[]) ∧ w' = w.setCell a (.int .i32 0)) := by
 have hd := race_disable
 have he := race_enable
 have hr := race_merge
 have hadd := run_call_add (P := Tryz.prog) Tryz.func169 (by kernel_rfl) (by kernel_rfl) (by kernel_rfl) .i32 (by kernel_rfl) (y := -1) (s := 0) hc hz (by simp [go_sem]; rfl)
 have hcv := run_convert_to_unsafe (P := Tryz.prog) (src := 237) (dst := 241) Tryz.underlying237 Tryz.underlying241 (by kernel_rfl) hc
 go_enter_d Tryz.func149, Tryz.ntmps149
 go_wp2
 go_end0
 go_wp2
 go_end0
 exact ⟨rfl, rfl⟩
set_option maxRecDepth 100000 in
theorem lock_free (a : Addr) (w : World) (hc : w.cell? a = some (.int .i32 0)) (hz : w.frozen? a = false) :
  Calls Tryz.prog 148 #[.pointer (some a)] w fun e w' => e = .returned (.tuple #[]) ∧ w' = w.setCell a (.int .i32 1) := by
 have hd := race_disable
 have he := race_enable
 have ha := race_acquire
 have hcas := run_call_cas_hit (P := Tryz.prog) Tryz.func164 (by kernel_rfl) (by kernel_rfl) (by kernel_rfl) .i32 (by kernel_rfl) (y := 1) hc hz
 have hc' : (w.setCell a (.int .i32 1)).cell? a = some (.int .i32 1) := World.cell?_setCell_same w a _ hc
 have hcv := run_convert_to_unsafe (P := Tryz.prog) (src := 237) (dst := 241) Tryz.underlying237 Tryz.underlying241 (by kernel_rfl) hc'
 go_enter Tryz.func148, Tryz.ntmps148
 go_wp2
 first | go_end0 | (simp only [Exit.inBlock, Exit.then]; refine bodyPost_ret (results_none rfl _ _ _) rfl ?_) | refine bodyPost_ret (results_none rfl _ _ _) rfl ?_
 go_wp2
 go_end0
 exact ⟨rfl, rfl⟩
theorem bool_load (a : Addr) (d : Int) (w : World) (h : w.cell? a = some (.int .u32 d)) :
  Calls Tryz.prog 129 #[.pointer (some a)] w fun e w' => e = .returned (.bool (d != 0)) ∧ w = w' := by
 have hl := run_call_load (P := Tryz.prog) Tryz.func147 (by kernel_rfl) (by kernel_rfl) (by kernel_rfl) .u32 (by kernel_rfl) h
 go_enter Tryz.func129, Tryz.ntmps129
 go_wp2
 go_ret
 exact ⟨rfl, rfl⟩
theorem u32_add (a : Addr) (n : Int) (w : World) (hc : w.cell? a = some (.int .u32 n)) (hz : w.frozen? a = false) :
  Calls Tryz.prog 131 #[.pointer (some a), .int .u32 1] w fun e w' => ∃ m, e = .returned (.int .u32 m) ∧ w' = w.setCell a (.int .u32 m) := by
 have hadd := run_call_add (P := Tryz.prog) Tryz.func151 (by kernel_rfl) (by kernel_rfl) (by kernel_rfl) .u32 (by kernel_rfl) (y := 1) (s := IntKind.u32.wrap (n + 1)) hc hz (by simp [go_sem])
 go_enter Tryz.func131, Tryz.ntmps131
 go_wp2
 go_ret
 exact ⟨_, rfl, rfl⟩
abbrev U32 (c : BitVec 32) : Value := .int .u32 (c.toNat : Int)
abbrev TAB : Nat := 155
def Tab (w : World) (b : Nat) (d st : Int) (k : Nat) : Prop :=
 ∃ cs : Array Value, Blk w b TAB cs ∧ cs.size = 260 ∧ cs[0]? = some (.int .u32 d) ∧ cs[1]? = some (.int .i32 st) ∧
  (∀ i, i < 256 → ∃ x : BitVec 32, cs[3 + i]? = some (U32 x) ∧ (i < k → x = crcTab i)) ∧ ∃ m, cs[259]? = some (.int .u32 m)
section
variable {w w' : World} {b : Nat} {d st : Int} {k : Nat}
theorem Tab.lt (h : Tab w b d st k) : b < w.heap.size := by obtain ⟨cs, h, _⟩ := h; exact h.lt
theorem Tab.done (h : Tab w b d st k) : w.cell? ⟨b, 0, none⟩ = some (.int .u32 d) := by
 obtain ⟨cs, h, _, h0, _⟩ := h; rw [h.cell, h0]
theorem Tab.lock (h : Tab w b d st k) : w.cell? ⟨b, 1, none⟩ = some (.int .i32 st) := by
 obtain ⟨cs, h, _, _, h0, _⟩ := h; rw [h.cell, h0]
theorem Tab.row (h : Tab w b d st k) {i : Nat} (hi : i < 256) : ∃ x : BitVec 32, w.cell? ⟨b, 3 + i, none⟩ = some (U32 x) ∧ (i < k → x = crcTab i) := by
 obtain ⟨cs, h, _, _, _, h0, _⟩ := h
 obtain ⟨x, h1, h2⟩ := h0 i hi
 exact ⟨x, by rw [h.cell, h1], h2⟩
theorem Tab.made (h : Tab w b d st k) : ∃ m, w.cell? ⟨b, 259, none⟩ = some (.int .u32 m) := by
 obtain ⟨cs, h, _, _, _, _, m, h0⟩ := h; exact ⟨m, by rw [h.cell, h0]⟩
theorem Tab.free (h : Tab w b d st k) (i : Nat) : w.frozen? ⟨b, i, none⟩ = false := by obtain ⟨cs, h, _⟩ := h; exact h.frozen i
theorem Tab.drew (h : Tab w b d st k) : Tab w.drew b d st k := h
theorem Tab.set_done (h : Tab w b d st k) (e : Int) : Tab (w.setCell ⟨b, 0, none⟩ (.int .u32 e)) b e st k := by
 obtain ⟨cs, h, hs, h0, h1, h2, m, h3⟩ := h
 refine ⟨_, h.set_ 0 _, by simpa using hs, by simp [hs], by simpa using h1, fun i hi => ?_, m, by simpa using h3⟩
 obtain ⟨x, a1, a2⟩ := h2 i hi
 exact ⟨x, by rw [Array.getElem?_setIfInBounds_ne (by omega)]; exact a1, a2⟩
theorem Tab.set_lock (h : Tab w b d st k) (e : Int) : Tab (w.setCell ⟨b, 1, none⟩ (.int .i32 e)) b d e k := by
 obtain ⟨cs, h, hs, h0, h1, h2, m, h3⟩ := h
 refine ⟨_, h.set_ 1 _, by simpa using hs, by simpa using h0, by simp [hs], fun i hi => ?_, m, by simpa using h3⟩
 obtain ⟨x, a1, a2⟩ := h2 i hi
 exact ⟨x, by rw [Array.getElem?_setIfInBounds_ne (by omega)]; exact a1, a2⟩
theorem Tab.set_made (h : Tab w b d st k) (e : Int) : Tab (w.setCell ⟨b, 259, none⟩ (.int .u32 e)) b d st k := by
 obtain ⟨cs, h, hs, h0, h1, h2, m, h3⟩ := h
 refine ⟨_, h.set_ 259 _, by simpa using hs, by simpa using h0, by simpa using h1, fun i hi => ?_, e, by simp [hs]⟩
 obtain ⟨x, a1, a2⟩ := h2 i hi
 exact ⟨x, by rw [Array.getElem?_setIfInBounds_ne (by omega)]; exact a1, a2⟩
theorem Tab.set_row (h : Tab w b d st k) (hk : k < 256) : Tab (w.setCell ⟨b, 3 + k, none⟩ (U32 (crcTab k))) b d st (k + 1) := by
 obtain ⟨cs, h, hs, h0, h1, h2, m, h3⟩ := h
 refine ⟨_, h.set_ (3 + k) _, by simpa using hs, by rw [Array.getElem?_setIfInBounds_ne (by omega)]; exact h0, by rw [Array.getElem?_setIfInBounds_ne (by omega)]; exact h1, fun i hi => ?_, m,
  by rw [Array.getElem?_setIfInBounds_ne (by omega)]; exact h3⟩
 by_cases e : i = k
 ·subst e
  exact ⟨_, Array.getElem?_setIfInBounds_self_of_lt (by omega), fun _ => rfl⟩
 ·obtain ⟨x, a1, a2⟩ := h2 i hi
  exact ⟨x, by rw [Array.getElem?_setIfInBounds_ne (by omega)]; exact a1, fun _ => a2 (by omega)⟩
theorem Tab.keep {F : Nat → Prop} (h : Tab w b d st k) (hb : Keep F w w') (hg : ¬ F b) : Tab w' b d st k := by
 obtain ⟨cs, h, hr⟩ := h; exact ⟨cs, h.keep hb hg, hr⟩
end
theorem bit_form (x : BitVec 32) : bits .xor .u32 ((x.toNat : Int) / 2) (3988292384 * bits .and .u32 (x.toNat : Int) 1 % 4294967296) = ((crcBit x).toNat : Int) := by
 have h1 := u32_and_nat x.toNat 1 x.isLt (by omega)
 rw [show ((1 : Nat) : Int) = 1 from rfl] at h1
 rw [h1]
 have h2 : (3988292384 * ((x.toNat &&& 1 : Nat) : Int) % 4294967296) = ((3988292384 * (x.toNat &&& 1) % 4294967296 : Nat) : Int) := by omega
 rw [h2, show ((x.toNat : Int) / 2) = ((x.toNat / 2 : Nat) : Int) from by omega, u32_xor_nat _ _ (by have := x.isLt; omega) (by omega)]
 congr 1
theorem int32_congr {a b : Int} (h : a = b) : Value.int .u32 a = .int .u32 b := by rw [h]
set_option maxRecDepth 100000 in
theorem fill_any (b : Nat) (w : World) (d st : Int) (hb : Tab w b d st 0) :
  Calls Tryz.prog 105 #[.pointer (some ⟨b, 0, none⟩)] w fun e w' => e = .returned (.tuple #[]) ∧ Tab w' b d st 256 ∧ Keep (· = b) w w' := by
 go_enter Tryz.func105, Tryz.ntmps105
 go_wp2
 go_loopw [5] (fun i w1 => ∃ k : Nat, k ≤ 256 ∧ i = .int .i64 k ∧ Tab w1 b d st k ∧ Keep (· = b) w w1) (fun i _ => 256 - (intOf i).toNat)
 case atStart => exact ⟨0, by omega, rfl, hb, Keep.refl _ _⟩
 case round =>
  obtain ⟨k, hk, rfl, hT, hK⟩ := hrel
  by_cases hlt : k < 256
  ·obtain ⟨x0, hx0, _⟩ := hT.row hlt
   have hf0 := hT.free (3 + k)
   go_wp2
   go_loop [3, 10] (fun c j => ∃ (j' : Nat), c = U32 (crcBits j' (BitVec.ofNat 32 k)) ∧ j = .int .i64 j' ∧ j' ≤ 8) (fun _ j => 8 - (intOf j).toNat)
   case atStart => exact ⟨0, int32_congr (by simp [crcBits]; omega), rfl, by omega⟩
   case round =>
    obtain ⟨j', rfl, rfl, hj⟩ := hrel
    by_cases hlt2 : j' < 8
    ·go_wp2
     go_round
     case rel => exact ⟨j' + 1, int32_congr (bit_form _), by go_num, by omega⟩
     case measure => simp [intOf]; omega
    ·obtain rfl : j' = 8 := by omega
     have hT1 := hT.set_row hlt
     obtain ⟨m, hm⟩ := hT1.made
     have hfr := hT1.free 259
     go_wp2_with fail
     refine (u32_add _ m _ hm hfr).mono ?_
     rintro e w' ⟨m', rfl, rfl⟩
     have hT2 := hT1.set_made m'
     have hK2 : Keep (· = b) w ((wr.setCell ⟨b, 3 + k, none⟩ (U32 (crcTab k))).setCell ⟨b, 259, none⟩ (.int .u32 m')) := (hK.set1 _ _).set1 _ _
     go_wp2
     go_roundw
     case rel => exact ⟨k + 1, by omega, by go_num, hT2, hK2⟩
     case measure => simp [intOf]; omega
  ·obtain rfl : k = 256 := by omega
   go_wp2
   go_end0
   exact ⟨rfl, hT, hK⟩
abbrev FILL (b : Nat) : Value := .func (.func 105) #[.pointer (some ⟨b, 0, none⟩)] #[]
set_option maxRecDepth 100000 in
theorem slow_any (b : Nat) (w : World) (hT : Tab w b 0 0 0) :
  Calls Tryz.prog 130 #[.pointer (some ⟨b, 0, none⟩), FILL b] w fun e w' => e = .returned (.tuple #[]) ∧ Tab w' b 1 0 256 ∧ Keep (· = b) w w' := by
 have h1 := hT.lock
 have f1 := hT.free 1
 have hT1 := hT.set_lock 1
 have K1 : Keep (· = b) w (w.setCell ⟨b, 1, none⟩ (.int .i32 1)) := (Keep.refl _ _).set1 _ _
 have hnot : ∀ (x : Bool) (w : World), (Op.unary .not (.bool x)).run Tryz.prog w = .ok (.bool (!x)) w := fun _ _ => rfl
 go_enter_defers Tryz.func130, Tryz.ntmps130
 go_wp2_with (go_at_call 148; refine (lock_free ⟨b, 1, none⟩ _ h1 f1).mono ?_; rintro e w' ⟨rfl, rfl⟩)
 refine (bool_load _ 0 _ hT1.done).mono ?_
 rintro e w' ⟨rfl, rfl⟩
 go_wp2_with fail
 refine (fill_any b _ 0 1 hT1).mono ?_
 rintro e w2 ⟨rfl, hT2, K2⟩
 go_wp2
 have hT3 := hT2.drew.set_done 1
 have hT4 := hT3.set_lock 0
 have K3 : Keep (· = b) w (w2.drew.setCell ⟨b, 0, none⟩ (.int .u32 1)) := ((K1.trans K2 (fun _ _ e => e)).drew).set1 _ _
 have K4 : Keep (· = b) w ((w2.drew.setCell ⟨b, 0, none⟩ (.int .u32 1)).setCell ⟨b, 1, none⟩ (.int .i32 0)) := K3.set1 _ _
 refine leaves_cons (f := 150) (args := #[.pointer (some ⟨b, 0, none⟩), .bool true]) (by simp) (by simp [go_sem]) ?_
 refine (store_deferred ⟨b, 0, none⟩ (.int .u32 0) .returning _ hT2.done (hT2.free 0)).mono ?_
 rintro e u' w'' ⟨rfl, rfl, rfl⟩
 refine leaves_cons (f := 149) (args := #[.pointer (some ⟨b, 1, none⟩)]) (by simp [settle]) (by simp [go_sem]) ?_
 refine (unlock_deferred ⟨b, 1, none⟩ _ _ hT3.lock (hT3.free 1)).mono ?_
 rintro e u' w'' ⟨rfl, rfl, rfl⟩
 simp [Leaves, settle, results, Tryz.results130]
 exact ⟨hT4, K4⟩
theorem do_first (b : Nat) (w : World) (hT : Tab w b 0 0 0) :
  Calls Tryz.prog 104 #[.pointer (some ⟨b, 0, none⟩), FILL b] w fun e w' => e = .returned (.tuple #[]) ∧ Tab w' b 1 0 256 ∧ Keep (· = b) w w' := by
 have h0 := hT.done
 have hnot : ∀ (x : Bool) (w : World), (Op.unary .not (.bool x)).run Tryz.prog w = .ok (.bool (!x)) w := fun _ _ => rfl
 go_enter Tryz.func104, Tryz.ntmps104
 go_wp2_with (go_at_call 129; refine (bool_load _ 0 _ h0).mono ?_; rintro e w' ⟨rfl, rfl⟩)
 refine (slow_any b _ hT).mono ?_
 rintro e w' ⟨rfl, hT', hK⟩
 go_wp2
 go_end0
 exact ⟨rfl, hT', hK⟩
theorem do_done (b : Nat) (f : Value) (w : World) (hT : Tab w b 1 0 256) :
  Calls Tryz.prog 104 #[.pointer (some ⟨b, 0, none⟩), f] w fun e w' => e = .returned (.tuple #[]) ∧ w = w' := by
 have h0 := hT.done
 have hnot : ∀ (x : Bool) (w : World), (Op.unary .not (.bool x)).run Tryz.prog w = .ok (.bool (!x)) w := fun _ _ => rfl
 go_enter Tryz.func104, Tryz.ntmps104
 go_wp2_with (go_at_call 129; refine (bool_load _ 1 _ h0).mono ?_; rintro e w' ⟨rfl, rfl⟩)
 go_end0
 exact ⟨rfl, rfl⟩
def zeroTab : Array Value := #[.int .u32 0, .int .i32 0, .int .u32 0] ++ Array.replicate 256 (.int .u32 0) ++ #[.int .u32 0]
theorem zero_tab (w : World) : (zeroValue TAB).run Tryz.prog w = .ok (.agg zeroTab) w := by kernel_rfl
theorem Tab.new (w : World) : Tab (w.alloc (.cells zeroTab TAB)) w.heap.size 0 0 0 := by
 refine ⟨_, Blk.new _ _ _, by simp [zeroTab], by simp [zeroTab], by simp [zeroTab], fun i hi => ⟨0#32, ?_, fun h => absurd h (by omega)⟩, 0, ?_⟩
 rotate_left
 ·unfold zeroTab; rw [Array.getElem?_append_right (by simp)]; simp
 unfold zeroTab
 rw [Array.getElem?_append_left (by simp; omega), Array.getElem?_append_right (by simp)]
 simp [hi]
theorem ret_int {k : IntKind} {a b : Int} (h : a = b) : Ending.returned (.int k a) = .returned (.int k b) := by rw [h]
theorem step_index (c : BitVec 32) (x : UInt8) : ∃ i : Nat, i < 256 ∧ bits .xor .u8 ((c.toNat : Int) % 256) (x.toNat : Int) = (i : Int) ∧
  bits .xor .u32 ((crcTab i).toNat : Int) ((c.toNat : Int) / 256) = ((crcStep c x.toBitVec).toNat : Int) := by
 refine ⟨(c.setWidth 8 ^^^ x.toBitVec).toNat, BitVec.isLt _, ?_, ?_⟩
 ·have h := u8_xor_nat (c.toNat % 256) x.toNat (by omega) x.toNat_lt
  rw [show (((c.toNat % 256 : Nat)) : Int) = (c.toNat : Int) % 256 from by omega] at h
  rw [h, BitVec.toNat_xor, BitVec.toNat_setWidth]
  rfl
 ·rw [← crcStep_eq]
  have h := u32_xor_nat (crcTab (c.setWidth 8 ^^^ x.toBitVec).toNat).toNat (c.toNat / 256) (BitVec.isLt _) (by have := c.isLt; omega)
  rw [show (((c.toNat / 256 : Nat)) : Int) = (c.toNat : Int) / 256 from by omega] at h
  rw [h, BitVec.toNat_xor (crcTab _), BitVec.toNat_ushiftRight, Nat.shiftRight_eq_div_pow]
set_option maxRecDepth 100000 in
theorem step_first (b : Nat) (c : BitVec 32) (x : UInt8) (w : World) (hT : Tab w b 0 0 0) :
  Calls Tryz.prog 82 #[.pointer (some ⟨b, 0, none⟩), U32 c, U8 x] w fun e w' => e = .returned (U32 (crcStep c x.toBitVec)) ∧ Tab w' b 1 0 256 ∧ Keep (· = b) w w' := by
 have hmf : ∀ (fn : Fn) (first cap : Array Value) (w : World), (Instr.makeFunc fn first cap).run Tryz.prog w = .ok (.func fn first cap) w := fun _ _ _ _ => rfl
 go_enter Tryz.func82, Tryz.ntmps82
 go_wp2_with fail
 refine (do_first b _ hT).mono ?_
 rintro e w' ⟨rfl, hT', hK⟩
 obtain ⟨i, hi, hx, hf⟩ := step_index c x
 obtain ⟨y, hy, hy'⟩ := hT'.row hi
 obtain rfl := hy' hi
 clear hy'
 go_wp2
 go_ret
 exact ⟨rfl, hT', hK⟩
set_option maxRecDepth 100000 in
theorem step_done (b : Nat) (c : BitVec 32) (x : UInt8) (w : World) (hT : Tab w b 1 0 256) :
  Calls Tryz.prog 82 #[.pointer (some ⟨b, 0, none⟩), U32 c, U8 x] w fun e w' => e = .returned (U32 (crcStep c x.toBitVec)) ∧ w = w' := by
 have hmf : ∀ (fn : Fn) (first cap : Array Value) (w : World), (Instr.makeFunc fn first cap).run Tryz.prog w = .ok (.func fn first cap) w := fun _ _ _ _ => rfl
 go_enter Tryz.func82, Tryz.ntmps82
 go_wp2_with fail
 refine (do_done b _ _ hT).mono ?_
 rintro e w' ⟨rfl, rfl⟩
 obtain ⟨i, hi, hx, hf⟩ := step_index c x
 obtain ⟨y, hy, hy'⟩ := hT.row hi
 obtain rfl := hy' hi
 clear hy'
 go_wp2
 go_ret
 exact ⟨rfl, rfl⟩
def TabOk (w : World) (b : Nat) : Prop := Tab w b 0 0 0 ∨ Tab w b 1 0 256
theorem step_any (b : Nat) (c : BitVec 32) (x : UInt8) (w : World) (hT : TabOk w b) :
  Calls Tryz.prog 82 #[.pointer (some ⟨b, 0, none⟩), U32 c, U8 x] w fun e w' => e = .returned (U32 (crcStep c x.toBitVec)) ∧ TabOk w' b ∧ Keep (· = b) w w' := by
 rcases hT with hT | hT
 ·exact (step_first b c x w hT).mono fun e w' ⟨h1, h2, h3⟩ => ⟨h1, .inr h2, h3⟩
 ·exact (step_done b c x w hT).mono fun e w' ⟨h1, h2⟩ => ⟨h1, .inr (h2 ▸ hT), h2 ▸ Keep.refl _ _⟩
theorem not_form (c : BitVec 32) : (bits .xor .u32 4294967295 (c.toNat : Int)) = (((~~~ c).toNat : Nat) : Int) := by
 have h := u32_xor_nat 4294967295 c.toNat (by omega) c.isLt
 rw [show ((4294967295 : Nat) : Int) = 4294967295 from rfl] at h
 rw [h]
 have : ~~~ c = BitVec.allOnes 32 ^^^ c := BitVec.not_def
 rw [this, BitVec.toNat_xor]
 rfl
theorem sum_any (B : Nat) (v : Value) (ls : List (List UInt8)) (w : World) (hv : Bytess w B v ls) :
  Calls Tryz.prog 58 #[v] w fun e w' => e = .returned (U32 (sumOf ls.flatten)) ∧ Ext w w' := by
 obtain ⟨A, c, rfl, hlc, hcm, _⟩ := hv.open_
 unfold maxLen at hcm
 have hz := zero_tab
 have hT0 := Tab.new w
 have hE0 : Ext w (w.alloc (.cells zeroTab TAB)) := (Keep.refl _ _).alloc _
 go_enter Tryz.func58, Tryz.ntmps58
 go_wp2
 clear hz
 go_loopw [4, 11] (fun s i w1 => ∃ k : Nat, k ≤ ls.length ∧ i = .int .i64 k ∧ s = U32 (crcOf (ls.take k).flatten) ∧ TabOk w1 w.heap.size ∧ Ext w w1) (fun _ i _ => ls.length - (intOf i).toNat)
 case atStart => exact ⟨0, by omega, rfl, rfl, .inl hT0, hE0⟩
 case round =>
  obtain ⟨k, hk, rfl, rfl, hT, hE⟩ := hrel
  by_cases hlt : k < ls.length
  ·obtain ⟨b, off, u, rfl, hb, hcell0, hu⟩ := hv.at_ hlt
   have hcell := (hE.cell (lt_of_cell hcell0) id).trans hcell0
   obtain ⟨A', c', rfl, hlc', hcm', _⟩ := hu.open_
   unfold maxLen at hcm'
   clear hcell0
   go_wp2
   clear hcell
   go_loopw [4, 17] (fun s j w1 => ∃ m : Nat, m ≤ ls[k].length ∧ j = .int .i64 m ∧ s = U32 (crcOf ((ls.take k).flatten ++ ls[k].take m)) ∧ TabOk w1 w.heap.size ∧ Ext w w1) (fun _ j _ => ls[k].length - (intOf j).toNat)
   case atStart => exact ⟨0, by omega, rfl, by simp, hT, hE⟩
   case round =>
    rename_i wo _
    obtain ⟨m, hm, rfl, rfl, hT1, hE1⟩ := hrel
    by_cases hlt2 : m < ls[k].length
    ·obtain ⟨b2, off2, rfl, hb2, hcell2⟩ := (hu.ext hE1).at_ hlt2
     go_wp2_with (go_at_call 82; refine (step_any _ _ _ _ hT1).mono ?_; rintro e w' ⟨rfl, hT2, hK2⟩)
     have hE2 : Ext w w' := hE1.trans hK2 fun k hk e => by omega
     go_roundw
     case rel => exact ⟨m + 1, by omega, by go_num, by rw [take_succ_get _ _ hlt2, ← List.append_assoc, crcOf_snoc], hT2, hE2⟩
     case measure => simp [intOf]; omega
    ·obtain rfl : m = ls[k].length := by omega
     go_wp2
     go_roundw
     case rel => exact ⟨k + 1, by omega, by go_num, by rw [take_succ_get _ _ hlt, List.flatten_append]; simp, hT1, hE1⟩
     case measure => simp [intOf]; omega
  ·obtain rfl : k = ls.length := by omega
   rw [List.take_length]
   go_wp2
   go_ret
   exact ⟨ret_int (not_form _), hE⟩
theorem xor_byte (c : BitVec 32) (x : UInt8) : bits .xor .u32 (c.toNat : Int) ((x.toNat : Int) % 4294967296) = ((crcBits 0 (c ^^^ x.toBitVec.zeroExtend 32)).toNat : Int) := by
 rw [show ((x.toNat : Int) % 4294967296) = (x.toNat : Int) from by have := x.toNat_lt; omega]
 rw [u32_xor_nat _ _ c.isLt (by have := x.toNat_lt; omega)]
 show _ = (((c ^^^ x.toBitVec.zeroExtend 32).toNat : Nat) : Int)
 rw [BitVec.toNat_xor, BitVec.zeroExtend, BitVec.toNat_setWidth, Nat.mod_eq_of_lt (by have := x.toBitVec.isLt; omega)]
 rfl
theorem xor_ones (c : BitVec 32) : bits .xor .u32 (c.toNat : Int) 4294967295 = (((~~~ c).toNat : Nat) : Int) := by
 have h := u32_xor_nat c.toNat 4294967295 c.isLt (by omega)
 rw [show ((4294967295 : Nat) : Int) = 4294967295 from rfl] at h
 rw [h]
 have : ~~~ c = c ^^^ BitVec.allOnes 32 := by rw [BitVec.not_def, BitVec.xor_comm]
 rw [this, BitVec.toNat_xor]
 rfl
theorem low_one (y : BitVec 32) : bits .and .u32 (y.toNat : Int) 1 = if y[0] then 1 else 0 := by
 have h1 := u32_and_nat y.toNat 1 y.isLt (by omega)
 rw [show ((1 : Nat) : Int) = 1 from rfl] at h1
 rw [h1]
 have : y.toNat &&& 1 = (y &&& 1#32).toNat := by rw [BitVec.toNat_and]; rfl
 rw [this, and_one]
 cases y[0] <;> rfl
theorem bit_odd (y : BitVec 32) (h : y[0] = true) : bits .xor .u32 ((y.toNat : Int) / 2) 3988292384 = ((crcBit y).toNat : Int) := by
 have h1 := u32_xor_nat (y.toNat / 2) 3988292384 (by have := y.isLt; omega) (by omega)
 rw [show ((3988292384 : Nat) : Int) = 3988292384 from rfl, show (((y.toNat / 2 : Nat)) : Int) = (y.toNat : Int) / 2 from by omega] at h1
 rw [h1, crcBit_eq, h]
 simp only [if_true, BitVec.toNat_xor, BitVec.toNat_ushiftRight, Nat.shiftRight_eq_div_pow]
 rfl
theorem bit_even (y : BitVec 32) (h : y[0] = false) : ((y.toNat : Int) / 2) = ((crcBit y).toNat : Int) := by
 rw [crcBit_even y h, BitVec.toNat_ushiftRight, Nat.shiftRight_eq_div_pow]
 omega
theorem ref_sum (B : Nat) (v : Value) (ls : List (List UInt8)) (w : World) (hv : Bytess w B v ls) :
  Calls Tryz.prog 72 #[v] w fun e w' => e = .returned (U32 (sumOf ls.flatten)) ∧ w = w' := by
 obtain ⟨A, c, rfl, hlc, hcm, _⟩ := hv.open_
 unfold maxLen at hcm
 go_enter Tryz.func72, Tryz.ntmps72
 go_wp2
 go_loop [3, 4] (fun s i => ∃ k : Nat, k ≤ ls.length ∧ i = .int .i64 k ∧ s = U32 (crcOf (ls.take k).flatten)) (fun _ i => ls.length - (intOf i).toNat)
 case atStart => exact ⟨0, by omega, rfl, rfl⟩
 case round =>
  obtain ⟨k, hk, rfl, rfl⟩ := hrel
  by_cases hlt : k < ls.length
  ·obtain ⟨b, off, u, rfl, hb, hcell, hu⟩ := hv.at_ hlt
   obtain ⟨A', c', rfl, hlc', hcm', _⟩ := hu.open_
   unfold maxLen at hcm'
   go_wp2
   go_loop [3, 5] (fun s j => ∃ m : Nat, m ≤ ls[k].length ∧ j = .int .i64 m ∧ s = U32 (crcOf ((ls.take k).flatten ++ ls[k].take m))) (fun _ j => ls[k].length - (intOf j).toNat)
   case atStart => exact ⟨0, by omega, rfl, by simp⟩
   case round =>
    obtain ⟨m, hm, rfl, rfl⟩ := hrel
    by_cases hlt2 : m < ls[k].length
    ·obtain ⟨b2, off2, rfl, hb2, hcell2⟩ := hu.at_ hlt2
     have HS := hid (take_succ_get _ _ hlt2)
     generalize hx0 : ls[k][m] = x0 at *
     generalize hS0 : crcOf ((ls.take k).flatten ++ ls[k].take m) = S0
     have HS0 := hid hS0
     clear hS0 hx0
     go_wp2
     go_loop [3, 6] (fun s t => ∃ n : Nat, n ≤ 8 ∧ t = .int .i64 n ∧ s = U32 (crcBits n (S0 ^^^ x0.toBitVec.zeroExtend 32))) (fun _ t => 8 - (intOf t).toNat)
     case atStart => exact ⟨0, by omega, rfl, int32_congr (xor_byte S0 x0)⟩
     case round =>
      obtain ⟨n, hn, rfl, rfl⟩ := hrel
      by_cases hlt3 : n < 8
      ·have hlow := low_one (crcBits n (S0 ^^^ x0.toBitVec.zeroExtend 32))
       have hodd := bit_odd (crcBits n (S0 ^^^ x0.toBitVec.zeroExtend 32))
       have heven := bit_even (crcBits n (S0 ^^^ x0.toBitVec.zeroExtend 32))
       have hst : ∀ y, crcBits n y = crcBits n y → crcBit (crcBits n y) = crcBits (n + 1) y := fun _ _ => rfl
       cases hc : (crcBits n (S0 ^^^ x0.toBitVec.zeroExtend 32))[0]
       ·rw [hc] at hlow
        have h2 := heven hc
        rw [hst _ rfl] at h2
        clear hst heven hodd hc
        simp only [Bool.false_eq_true, if_false] at hlow
        have hcnd : (bits .and .u32 ((crcBits n (S0 ^^^ x0.toBitVec.zeroExtend 32)).toNat : Int) 1 == 1) = false := by rw [hlow]; rfl
        clear hlow
        have H2 := hid h2
        clear h2
        go_wp2
        go_round
        case rel => exact ⟨n + 1, by omega, by go_num, int32_congr H2.out⟩
        case measure => simp [intOf]; omega
       ·rw [hc] at hlow
        have h2 := hodd hc
        rw [hst _ rfl] at h2
        clear hst heven hodd hc
        simp only [if_true] at hlow
        have hcnd : (bits .and .u32 ((crcBits n (S0 ^^^ x0.toBitVec.zeroExtend 32)).toNat : Int) 1 == 1) = true := by rw [hlow]; rfl
        clear hlow
        have H2 := hid h2
        clear h2
        go_wp2
        go_round
        case rel => exact ⟨n + 1, by omega, by go_num, int32_congr H2.out⟩
        case measure => simp [intOf]; omega
      ·obtain rfl : n = 8 := by omega
       go_wp2
       go_round
       case rel => exact ⟨m + 1, by omega, by go_num, by rw [HS.out, ← List.append_assoc, crcOf_snoc, HS0.out]; rfl⟩
       case measure => simp [intOf]; omega
    ·obtain rfl : m = ls[k].length := by omega
     go_wp2
     go_round
     case rel => exact ⟨k + 1, by omega, by go_num, by rw [take_succ_get _ _ hlt, List.flatten_append]; simp⟩
     case measure => simp [intOf]; omega
  ·obtain rfl : k = ls.length := by omega
   rw [List.take_length]
   go_wp2
   go_ret
   exact ⟨ret_int (xor_ones _), rfl⟩
theorem ref_sum_ext (B : Nat) (v : Value) (ls : List (List UInt8)) (w : World) (hv : Bytess w B v ls) :
  Calls Tryz.prog 72 #[v] w fun e w' => e = .returned (U32 (sumOf ls.flatten)) ∧ Ext w w' :=
 (ref_sum B v ls w hv).mono fun _ _ ⟨h1, h2⟩ => ⟨h1, h2 ▸ Keep.refl _ _⟩
theorem four_cells (n : Nat) (h : n < 4294967296) : [Value.int .u8 ((n : Int) / 16777216), .int .u8 ((n : Int) / 65536 % 256), .int .u8 ((n : Int) / 256 % 256), .int .u8 ((n : Int) % 256)] = (fourL n).map U8 := by
 simp [fourL]
 omega
theorem four_new {w : World} (n : Nat) (h : n < 4294967296) (f : Nat × Nat) :
  BytesS (w.alloc (.cells #[.int .u8 ((n : Int) / 16777216), .int .u8 ((n : Int) / 65536 % 256), .int .u8 ((n : Int) / 256 % 256), .int .u8 ((n : Int) % 256)] 5 f)) (fun k => w.heap.size ≤ k) (.slice (some ⟨w.heap.size, 0, none⟩) 4 4) (fourL n) := by
 have e := four_cells n h
 refine ⟨(fourL n).map U8, ?_, U8_cells _⟩
 rw [← e]
 exact (RowS.new (w := w) (t := 5) (sz := 1) (n := 4) (cs := [_, _, _, _]) rfl (by simp [maxLen]) f).more fun k _ e => by subst e; exact Nat.le_refl _
theorem four_any (n : Nat) (hn : n < 4294967296) (w : World) :
  Calls Tryz.prog 57 #[.int .u32 (n : Int)] w fun e w' => ∃ v, e = .returned v ∧ BytesS w' (fun k => w.heap.size ≤ k) v (fourL n) ∧ Ext w w' := by
 go_enter Tryz.func57, Tryz.ntmps57
 go_wp2
 go_ret
 exact ⟨_, rfl, four_new n hn _, (Keep.refl _ _).alloc _⟩
theorem ref_four (n : Nat) (hn : n < 4294967296) (w : World) :
  Calls Tryz.prog 71 #[.int .u32 (n : Int)] w fun e w' => ∃ v, e = .returned v ∧ BytesS w' (fun k => w.heap.size ≤ k) v (fourL n) ∧ Ext w w' := by
 go_enter Tryz.func71, Tryz.ntmps71
 go_wp2
 go_ret
 exact ⟨_, rfl, four_new n hn _, (Keep.refl _ _).alloc _⟩
theorem number_any (v : Value) (l : List UInt8) (S : BS) (w : World) (hv : BytesS w S v l) (hl : 4 ≤ l.length) :
  Calls Tryz.prog 106 #[v] w fun e w' => e = .returned (.int .u32 (numL l : Nat)) ∧ w = w' := by
 obtain ⟨A, c, rfl, h1, h2⟩ := hv.shape
 unfold maxLen at h2
 go_enter Tryz.func106, Tryz.ntmps106
 go_wp2
 go_loop [3, 9] (fun s i => ∃ k : Nat, k ≤ 4 ∧ i = .int .i64 k ∧ s = .int .u32 (numK (l.take k) : Nat)) (fun _ i => 4 - (intOf i).toNat)
 case atStart => exact ⟨0, by omega, rfl, rfl⟩
 case round =>
  obtain ⟨k, hk, rfl, rfl⟩ := hrel
  by_cases hlt : k < 4
  ·obtain ⟨b, off, rfl, hb, hsz, hc⟩ := bytesS_at hv (k := k) (by omega)
   have hlk := numK_lt k (l.take k) (by simp; omega)
   have hx := (l[k]'(by omega)).toNat_lt
   have hs := take_succ_get l k (by omega)
   generalize l[k]'(by omega) = x at *
   have HS := hid (show numK (l.take (k + 1)) = numK (l.take k) * 256 + x.toNat from by rw [hs, numK_snoc])
   clear hs
   have hm : numK (l.take k) < 16777216 := by
    have : (256 : Nat) ^ k ≤ 256 ^ 3 := Nat.pow_le_pow_right (by omega) (by omega)
    omega
   generalize numK (l.take k) = m at *
   clear hlk
   have ho : bits .or .u32 ((m : Int) * 256) (x.toNat : Int) = ((m * 256 + x.toNat : Nat) : Int) := by
    rw [show ((m : Int) * 256) = ((m * 256 : Nat) : Int) from by omega, u32_or_nat _ _ (by omega) (by omega)]
    congr 1
    have := Nat.shiftLeft_add_eq_or_of_lt (b := x.toNat) (i := 8) hx m
    rw [Nat.shiftLeft_eq] at this
    exact this.symm
   have HO := hid ho
   clear ho
   go_wp2
   exact ⟨⟨k + 1, by omega, by go_num, by rw [HO.out, HS.out]⟩, by simp [intOf]; omega⟩
  ·obtain rfl : k = 4 := by omega
   go_wp2
   go_ret
   exact ⟨rfl, rfl⟩
theorem or_low (m x : Nat) (i : Nat) (hx : x < 2 ^ i) (hm : m * 2 ^ i + x < 4294967296) : bits .or .u32 ((m * 2 ^ i : Nat) : Int) (x : Int) = ((m * 2 ^ i + x : Nat) : Int) := by
 rw [u32_or_nat _ _ (by omega) (by omega)]
 have := Nat.shiftLeft_add_eq_or_of_lt (b := x) (i := i) hx m
 rw [Nat.shiftLeft_eq] at this
 rw [this]
theorem or_four (x0 x1 x2 x3 : Nat) (h0 : x0 < 256) (h1 : x1 < 256) (h2 : x2 < 256) (h3 : x3 < 256) :
  bits BinOp.or .u32 (bits BinOp.or .u32 (bits BinOp.or .u32 (IntKind.u32.wrap (IntKind.u32.wrap (x0 : Int) * 16777216)) (IntKind.u32.wrap (IntKind.u32.wrap (x1 : Int) * 65536))) (IntKind.u32.wrap (IntKind.u32.wrap (x2 : Int) * 256))) (IntKind.u32.wrap (x3 : Int)) = ((((x0 * 256 + x1) * 256 + x2) * 256 + x3 : Nat) : Int) := by
 rw [IntWalk.u32_in (x0 : Int) (by omega), IntWalk.u32_in (x1 : Int) (by omega), IntWalk.u32_in (x2 : Int) (by omega), IntWalk.u32_in (x3 : Int) (by omega), IntWalk.u32_in ((x0 : Int) * 16777216) (by omega), IntWalk.u32_in ((x1 : Int) * 65536) (by omega), IntWalk.u32_in ((x2 : Int) * 256) (by omega)]
 have e1 := or_low x0 (x1 * 65536) 24 (by omega) (by omega)
 have e2 := or_low (x0 * 256 + x1) (x2 * 256) 16 (by omega) (by omega)
 have e3 := or_low ((x0 * 256 + x1) * 256 + x2) x3 8 (by omega) (by omega)
 rw [show ((x0 : Int) * 16777216) = ((x0 * 2 ^ 24 : Nat) : Int) from by omega, show ((x1 : Int) * 65536) = ((x1 * 65536 : Nat) : Int) from by omega, e1,
  show ((x2 : Int) * 256) = ((x2 * 256 : Nat) : Int) from by omega, show x0 * 2 ^ 24 + x1 * 65536 = (x0 * 256 + x1) * 2 ^ 16 from by omega, e2, show (x0 * 256 + x1) * 2 ^ 16 + x2 * 256 = ((x0 * 256 + x1) * 256 + x2) * 2 ^ 8 from by omega, e3]
theorem ref_number (v : Value) (l : List UInt8) (S : BS) (w : World) (hv : BytesS w S v l) (hl : 4 ≤ l.length) :
  Calls Tryz.prog 95 #[v] w fun e w' => e = .returned (.int .u32 (numL l : Nat)) ∧ Ext w w' := by
 obtain ⟨A, c, rfl, h1, h2⟩ := hv.shape
 unfold maxLen at h2
 obtain ⟨b, off, rfl, hb, hsz, c0⟩ := bytesS_at hv (k := 0) (by omega)
 obtain ⟨_, _, e, _, _, c1⟩ := bytesS_at hv (k := 1) (by omega)
 cases e
 obtain ⟨_, _, e, _, _, c2⟩ := bytesS_at hv (k := 2) (by omega)
 cases e
 obtain ⟨_, _, e, _, _, c3⟩ := bytesS_at hv (k := 3) (by omega)
 cases e
 have hn := numL_eq l hl
 have h0 := (l[0]'(by omega)).toNat_lt
 have h1' := (l[1]'(by omega)).toNat_lt
 have h2' := (l[2]'(by omega)).toNat_lt
 have h3' := (l[3]'(by omega)).toNat_lt
 generalize l[0]'(by omega) = x0 at *
 generalize l[1]'(by omega) = x1 at *
 generalize l[2]'(by omega) = x2 at *
 generalize l[3]'(by omega) = x3 at *
 have HN := hid hn
 clear hn
 simp only [Nat.add_zero] at c0
 have g0 : 0 < l.length := by omega
 have g1 : (1 : Int) < l.length := by omega
 have g2 : (2 : Int) < l.length := by omega
 have g3 : (3 : Int) < l.length := by omega
 go_enter Tryz.func95, Tryz.ntmps95
 go_wp2_with fail
 refine wp_region_grow (specOf []) (fun w' => Ext w w') stable_nil (stableC_ext _) (by kernel_rfl) (by kernel_rfl) (Keep.drew (Keep.refl _ _)) ?_
 iterate 23
  (try simp only [Act.put, sqa, sqb, sqc])
  refine grow_run rfl rfl rfl ?_
  apply Exists.intro
  refine ⟨fun w' hC hK => ?_, ?_⟩
  ·have c0 := sqw hC c0
   have c1 := sqw hC c1
   have c2 := sqw hC c2
   have c3 := sqw hC c3
   go_simp
   rfl
 refine grow_nil fun w6 hC _ => ?_
 go_wp2
 go_ret
 exact ⟨by rw [HN.out]; exact congrArg (fun z => Ending.returned (.int .u32 z)) (or_four _ _ _ _ h0 h1' h2' h3'), hC⟩
end Go.Proofs.YtihaliffcobacaaGreatDoor
