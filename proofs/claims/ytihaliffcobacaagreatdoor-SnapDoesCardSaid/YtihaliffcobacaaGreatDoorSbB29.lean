/- RDD, RDI: laid together. -/
import Derived.Test.YtihaliffcobacaaGreatDoorSbB28
set_option linter.unusedSimpArgs false
set_option linter.unusedVariables false
set_option maxHeartbeats 25600000
set_option maxRecDepth 20000
namespace Go.Proofs.YtihaliffcobacaaGreatDoor
open Go.RowKit
abbrev TRD : TypeId := 93
abbrev TRF : TypeId := 130
def EFl : El DC := { size := 3, rd := fun w S cs c => ∃ bv, cs = [.string (textOf c.name), bv, .int .i64 (c.l : Int)] ∧ BytesS w S bv c.b }
theorem EFl.ok : EFl.Ok where
 pos := by decide
 len := fun ⟨_, h, _⟩ => by subst h; rfl
 one := fun ⟨bv, h, hs⟩ u hu => by
  subst h
  obtain ⟨A, c, rfl, _⟩ := hs.shape
  simp at hu
  rcases hu with rfl | rfl | rfl <;> rfl
 keep := fun ⟨bv, h, hs⟩ hk hF => ⟨bv, h, hs.keep EU8.ok hk hF⟩
 more := fun ⟨bv, h, hs⟩ hS => ⟨bv, h, hs.more EU8.ok hS⟩
theorem ty_fl : TyInfo Tryz.prog 91 TRF 3 48 := by
 obtain ⟨i, h1, h2, h3, h4⟩ := info_parts (show (Tryz.prog.info? TRF).map (fun i => (i.zero, i.size, i.bytes)) = some (some (.agg #[.string ⟨#[]⟩, .slice none 0 0, .int .i64 0]), 3, 48) from by kernel_rfl)
 exact ⟨Tryz.underlying91, i, _, h1, h2, h3, h4, rfl⟩
theorem textOf_toList (x : List UInt8) : (textOf x).toList = x := by rw [ByteArray.toList_eq]; rfl
structure RdAt (w : World) (B : BS) (r : Nat) (cs : List DC) (s : DSt) (F : Value) (dead : Bool) : Prop where
 own : B r
 blk : Blk w r TRD #[.int .i64 (s.room : Int), F, .bool s.full, .int .i64 s.left, .bool dead]
 row : Own EFl w 0 TRF (fun k => B k ∧ k ≠ r ∧ F.ownBlock ≠ some k) F cs
 ownF : ∀ g, F.ownBlock = some g → B g ∧ g ≠ r
 dead : dead = true → s.left = 0
def RdIs (w : World) (B : BS) (r : Nat) (cs : List DC) (s : DSt) : Prop := ∃ F dead, RdAt w B r cs s F dead
section
variable {w w' : World} {B B' : BS} {r : Nat} {cs : List DC} {s : DSt} {F : Value} {dead : Bool}
theorem RdAt.keep {G : Nat → Prop} (h : RdAt w B r cs s F dead) (hk : Keep G w w') (hG : ∀ k, B k → ¬ G k) : RdAt w' B r cs s F dead :=
 ⟨h.own, h.blk.keep hk (hG _ h.own), h.row.keep EFl.ok hk (fun k hk => hG k hk.1) (fun g hg => hG g (h.ownF g hg).1), h.ownF, h.dead⟩
theorem RdAt.more (h : RdAt w B r cs s F dead) (hB : ∀ k, k < w.heap.size → B k → B' k) : RdAt w B' r cs s F dead :=
 ⟨hB _ h.blk.lt h.own, h.blk, h.row.more EFl.ok fun k hk h => ⟨hB k hk h.1, h.2⟩, fun g hg => ⟨hB g (h.row.lt hg).2 (h.ownF g hg).1, (h.ownF g hg).2⟩, h.dead⟩
theorem RdIs.keep {G : Nat → Prop} (h : RdIs w B r cs s) (hk : Keep G w w') (hG : ∀ k, B k → ¬ G k) : RdIs w' B r cs s := by obtain ⟨F, dead, h⟩ := h; exact ⟨F, dead, h.keep hk hG⟩
theorem RdIs.ext (h : RdIs w B r cs s) (hk : Ext w w') : RdIs w' B r cs s := h.keep hk fun _ _ x => x
theorem RdIs.more (h : RdIs w B r cs s) (hB : ∀ k, k < w.heap.size → B k → B' k) : RdIs w B' r cs s := by obtain ⟨F, dead, h⟩ := h; exact ⟨F, dead, h.more hB⟩
theorem RdAt.cells (h : RdAt w B r cs s F dead) : w.cell? ⟨r, 0, none⟩ = some (.int .i64 (s.room : Int)) ∧ w.cell? ⟨r, 1, none⟩ = some F ∧ w.cell? ⟨r, 2, none⟩ = some (.bool s.full) ∧ w.cell? ⟨r, 3, none⟩ = some (.int .i64 s.left) ∧ w.cell? ⟨r, 4, none⟩ = some (.bool dead) := by
 have hb := h.blk
 exact ⟨hb.cell 0, hb.cell 1, hb.cell 2, hb.cell 3, hb.cell 4⟩
theorem RdAt.set (h : RdAt w B r cs s F dead) (i : Nat) (u : Value) {s' : DSt} {dead' : Bool} (hb : (#[.int .i64 (s.room : Int), F, .bool s.full, .int .i64 s.left, .bool dead] : Array Value).setIfInBounds i u = #[.int .i64 (s'.room : Int), F, .bool s'.full, .int .i64 s'.left, .bool dead']) (hd : dead' = true → s'.left = 0) :
  RdAt (w.setCell ⟨r, i, none⟩ u) B r cs s' F dead' := by
 have hk : Keep (· = r) w (w.setCell ⟨r, i, none⟩ u) := (Keep.refl _ _).set1 i u
 refine ⟨h.own, ?_, h.row.keep EFl.ok hk (fun k hk e => hk.2.1 e) (fun g hg => (h.ownF g hg).2), h.ownF, hd⟩
 have := h.blk.set_ i u
 rw [hb] at this
 exact this
end
theorem ref_call (w : World) (B : BS) (r : Nat) (cs : List DC) (s : DSt) (hl : -1 ≤ s.left ∧ s.left ≤ 9223372036854775807) (h : RdIs w B r cs s) :
  Calls Tryz.prog 73 #[.pointer (some ⟨r, 0, none⟩)] w fun e w' => e = .returned (.bool (goesC s.left)) ∧ RdIs w' B r cs { s with left := leftC s.left } ∧ Keep (· = r) w w' := by
 obtain ⟨F, dead, h⟩ := h
 obtain ⟨R, fu, lf⟩ := s
 obtain ⟨_, _, _, c3, c4⟩ := h.cells
 have hz := h.blk.frozen
 have HH := hid h
 have HL := hid (show -1 ≤ lf ∧ lf ≤ 9223372036854775807 from hl)
 clear h hl
 by_cases h0 : lf = 0
 ·subst h0
  go_enter Tryz.func73, Tryz.ntmps73
  go_wp2
  go_ret
  exact ⟨rfl, ⟨F, true, HH.out.set 4 (.bool true) (s' := ⟨R, fu, 0⟩) rfl fun _ => rfl⟩, (Keep.refl _ _).set1 4 _⟩
 ·by_cases h1 : 0 < lf
  ·have h0X : (lf == 0) = false := by simp; omega
   have hw : IntKind.i64.wrap (lf - 1) = lf - 1 := by have := HL.out; rw [IntKind.wrap_i64]; omega
   clear h0
   go_enter Tryz.func73, Tryz.ntmps73
   go_wp2
   go_ret
   have e1 : goesC lf = true := by unfold goesC; simp; omega
   have e2 : leftC lf = lf - 1 := by unfold leftC; rw [if_pos h1]
   refine ⟨by show _ = Ending.returned (.bool (goesC lf)); rw [e1]; rfl, ⟨F, dead, ?_⟩, (Keep.refl _ _).set1 3 _⟩
   refine HH.out.set 3 (.int .i64 (lf - 1)) (s' := ⟨R, fu, leftC lf⟩) (by rw [e2]; rfl) fun hd => ?_
   have := HH.out.dead hd
   have : lf = 0 := this
   omega
  ·have h0X : (lf == 0) = false := by simp; omega
   have h1X : decide (0 < lf) = false := by simp; omega
   go_enter Tryz.func73, Tryz.ntmps73
   go_wp2
   go_ret
   have e1 : goesC lf = true := by unfold goesC; simp; omega
   have e2 : leftC lf = lf := by unfold leftC; rw [if_neg (by omega)]
   refine ⟨by show _ = Ending.returned (.bool (goesC lf)); rw [e1]; rfl, ⟨F, dead, ?_⟩, Keep.refl _ _⟩
   show RdAt _ B r cs ⟨R, fu, leftC lf⟩ F dead
   rw [e2]
   exact HH.out
def posC (cs : List DC) (nm : List UInt8) : Nat := cs.findIdx fun c => c.name == nm
def findZ (cs : List DC) (nm : List UInt8) : Int := if posC cs nm < cs.length then (posC cs nm : Int) else -1
theorem posC_at {cs : List DC} {nm : List UInt8} {j : Nat} (hj : j < cs.length) (h : (cs[j]'hj).name = nm) (h0 : ∀ i (hi : i < cs.length), i < j → (cs[i]'hi).name ≠ nm) : findZ cs nm = j := by
 have : posC cs nm = j := by
  unfold posC
  rw [List.findIdx_eq hj]
  exact ⟨by simp [h], fun i hi => by simpa using h0 i (by omega) hi⟩
 unfold findZ
 rw [this, if_pos hj]
theorem posC_none {cs : List DC} {nm : List UInt8} (h0 : ∀ i (hi : i < cs.length), (cs[i]'hi).name ≠ nm) : findZ cs nm = -1 := by
 have : posC cs nm = cs.length := by
  unfold posC
  rw [List.findIdx_eq_length]
  intro c hc
  obtain ⟨i, hi, rfl⟩ := List.getElem_of_mem hc
  simpa using h0 i hi
 unfold findZ
 rw [this, if_neg (by omega)]
theorem ref_find (w : World) (B : BS) (r : Nat) (cs : List DC) (s : DSt) (name : ByteArray) (h : RdIs w B r cs s) :
  Calls Tryz.prog 74 #[.pointer (some ⟨r, 0, none⟩), .string name] w fun e w' => e = .returned (.int .i64 (findZ cs name.data.toList)) ∧ w = w' := by
 obtain ⟨F, dead, h⟩ := h
 obtain ⟨_, c1, _, _, _⟩ := h.cells
 have hs := h.row.sl EFl.ok
 obtain ⟨A, c, rfl, hlc, hcm⟩ := hs.shape
 unfold maxLen at hcm
 have HS := hid hs
 clear hs h
 generalize hn : cs.length = n at *
 have HN := hid hn
 clear hn
 go_enter Tryz.func74, Tryz.ntmps74
 go_wp2_with fail
 go_loop [5] (fun i => ∃ j : Nat, j ≤ n ∧ i = .int .i64 j ∧ (∀ i (hi : i < cs.length), i < j → (cs[i]'hi).name ≠ name.data.toList)) (fun i => n - (intOf i).toNat)
 case atStart => exact ⟨0, by omega, rfl, fun i _ h => by omega⟩
 case round =>
  obtain ⟨j, hj, rfl, hfl⟩ := hrel
  have HF := hid hfl
  clear hfl
  by_cases hlt : j < n
  ·have hjm : j < cs.length := by rw [HN.out]; exact hlt
   obtain ⟨b1, o1, c0, rfl, _, _, ⟨bv, rfl, _⟩, hcell⟩ := HS.out.at_ EFl.ok hjm
   have e0 := hcell 0 _ rfl
   have hz : EFl.size = 3 := rfl
   simp only [hz, Nat.add_zero] at e0
   have hjX : (j : Int) < n := by omega
   clear hz hcell
   by_cases hq : (cs[j]'hjm).name = name.data.toList
   ·have hqX : ((textOf (cs[j]'hjm).name).toList == name.toList) = true := by rw [textOf_toList, ByteArray.toList_eq, hq]; simp
    have HP := hid (posC_at hjm hq HF.out)
    clear hq
    generalize (cs[j]'hjm).name = x at *
    go_wp2
    go_ret
    exact ⟨by rw [HP.out]; rfl, rfl⟩
   ·have hqX : ((textOf (cs[j]'hjm).name).toList == name.toList) = false := by rw [textOf_toList, ByteArray.toList_eq]; simpa using hq
    have HQ := hid hq
    clear hq
    obtain ⟨x, hx⟩ : ∃ x, (cs[j]'hjm).name = x := ⟨_, rfl⟩
    rw [hx] at hqX e0
    clear hx
    go_wp2
    go_round
    case rel =>
     refine ⟨j + 1, by omega, by go_num, fun i hi hij => ?_⟩
     rcases Nat.lt_or_ge i j with h | h
     ·exact HF.out i hi h
     ·obtain rfl : i = j := by omega
      exact HQ.out
    case measure => simp [intOf]; omega
  ·obtain rfl : j = n := by omega
   have HP := hid (posC_none (cs := cs) (nm := name.data.toList) fun i hi => HF.out i hi (by rw [← HN.out]; exact hi))
   go_wp2
   go_ret
   exact ⟨by rw [HP.out]; rfl, rfl⟩
def RNewIs (w : World) (room : Int) (e : Ending) (w' : World) : Prop :=
 if 0 ≤ room ∧ room ≤ 1048576 then ∃ r, e = .returned (.pointer (some ⟨r, 0, none⟩)) ∧ RdIs w' (fun k => w.heap.size ≤ k ∧ k < w'.heap.size) r [] ⟨room.toNat, false, -1⟩ ∧ Ext w w'
 else e = .returned (.pointer none) ∧ Ext w w'
theorem ref_new (w : World) (room : Int) : Calls Tryz.prog 17 #[.int .i64 room] w (RNewIs w room) := by
 by_cases h1 : room < 0
 ·have h1X : decide (room < 0) = true := by simpa using h1
  go_enter Tryz.func17, Tryz.ntmps17
  go_wp2
  go_ret
  unfold RNewIs
  rw [if_neg (by omega)]
  exact ⟨rfl, Keep.refl _ _⟩
 ·by_cases h2 : 1048576 < room
  ·have h1X : decide (room < 0) = false := by simpa using h1
   have h2X : decide (1048576 < room) = true := by simpa using h2
   clear h1 h2
   go_enter Tryz.func17, Tryz.ntmps17
   go_wp2
   go_ret
   unfold RNewIs
   simp at h2X
   rw [if_neg (by omega)]
   exact ⟨rfl, Keep.refl _ _⟩
  ·have h1X : decide (room < 0) = false := by simpa using h1
   have h2X : decide (1048576 < room) = false := by simpa using h2
   have HB := hid (show 0 ≤ room ∧ room ≤ 1048576 by omega)
   clear h1 h2
   go_enter Tryz.func17, Tryz.ntmps17
   go_wp2
   go_ret
   unfold RNewIs
   rw [if_pos HB.out]
   refine ⟨w.heap.size, rfl, ⟨.slice none 0 0, false, ⟨by simp, ?_, Own.nil _ _ _ _, (fun g hg => by simp [Value.ownBlock] at hg), fun h => by simp at h⟩⟩, (Keep.refl _ _).alloc _⟩
   have := Blk.new w TRD #[.int .i64 room, .slice none 0 0, .bool false, .int .i64 (-1), .bool false]
   show Blk _ _ _ #[.int .i64 ((room.toNat : Nat) : Int), _, _, _, _]
   rw [show ((room.toNat : Nat) : Int) = room by have := HB.out; omega]
   exact this
theorem ref_halted (w : World) (B : BS) (r : Nat) (cs : List DC) (s : DSt) (h : RdIs w B r cs s) :
  Calls Tryz.prog 47 #[.pointer (some ⟨r, 0, none⟩)] w fun e w' => e = .returned (.bool (s.left == 0)) ∧ w = w' := by
 obtain ⟨F, dead, h⟩ := h
 obtain ⟨_, _, _, c3, c4⟩ := h.cells
 have hd := h.dead
 obtain ⟨R, fu, lf⟩ := s
 clear h
 cases dead with
 | true =>
  have h0 : lf = 0 := hd rfl
  subst h0
  clear hd
  go_enter Tryz.func47, Tryz.ntmps47
  go_wp2
  go_ret
  exact ⟨rfl, rfl⟩
 | false =>
  clear hd
  go_enter Tryz.func47, Tryz.ntmps47
  go_wp2
  go_ret
  exact ⟨by first | rfl | simp, rfl⟩
theorem ref_halt (w : World) (B : BS) (r : Nat) (cs : List DC) (s : DSt) (n : Int) (h : RdIs w B r cs s) :
  Calls Tryz.prog 19 #[.pointer (some ⟨r, 0, none⟩), .int .i64 n] w fun e w' => e = .returned (.tuple #[]) ∧ RdIs w' B r cs { s with left := max n (-1) } ∧ Keep B w w' := by
 obtain ⟨F, dead, h⟩ := h
 obtain ⟨R, fu, lf⟩ := s
 obtain ⟨_, _, _, c3, c4⟩ := h.cells
 have hz := h.blk.frozen
 have HH := hid h
 clear h
 go_enter Tryz.func19, Tryz.ntmps19
 go_wp2
 go_end0
 refine ⟨rfl, ⟨F, n == 0, ?_⟩, (((Keep.refl (· = r) w).set1 3 _).set1 4 _).mono fun k _ e => by subst e; exact HH.out.own⟩
 refine ⟨HH.out.own, ?_, HH.out.row.keep EFl.ok (((Keep.refl (· = r) w).set1 3 _).set1 4 _) (fun k hk e => hk.2.1 e) (fun g hg => (HH.out.ownF g hg).2), HH.out.ownF, fun h => ?_⟩
 ·have := (HH.out.blk.set_ 3 (.int .i64 (max n (-1)))).set_ 4 (.bool (n == 0))
  simpa using this
 ·have : n = 0 := by simpa using h
  subst this
  rfl
theorem ref_used (w : World) (B : BS) (r : Nat) (cs : List DC) (s : DSt) (hu : usedC cs ≤ 1048576) (h : RdIs w B r cs s) :
  Calls Tryz.prog 45 #[.pointer (some ⟨r, 0, none⟩)] w fun e w' => e = .returned (.int .i64 (usedC cs : Int)) ∧ w = w' := by
 obtain ⟨F, dead, h⟩ := h
 obtain ⟨_, c1, _, _, _⟩ := h.cells
 have hs := h.row.sl EFl.ok
 obtain ⟨A, c, rfl, hlc, hcm⟩ := hs.shape
 unfold maxLen at hcm
 have HS := hid hs
 have HU := hid hu
 clear hs h hu
 generalize hn : cs.length = n at *
 have HN := hid hn
 clear hn
 go_enter Tryz.func45, Tryz.ntmps45
 go_wp2_with fail
 go_loop [3, 4] (fun x i => ∃ j : Nat, j ≤ n ∧ i = .int .i64 j ∧ x = .int .i64 (usedC (cs.take j) : Int)) (fun _ i => n - (intOf i).toNat)
 case atStart => exact ⟨0, by omega, rfl, rfl⟩
 case round =>
  obtain ⟨j, hj, rfl, rfl⟩ := hrel
  by_cases hlt : j < n
  ·have hjm : j < cs.length := by rw [HN.out]; exact hlt
   obtain ⟨b1, o1, c0, rfl, _, _, ⟨bv, rfl, hb⟩, hcell⟩ := HS.out.at_ EFl.ok hjm
   obtain ⟨A2, c2, rfl, _⟩ := hb.shape
   have e1 := hcell 1 _ rfl
   have hz : EFl.size = 3 := rfl
   simp only [hz] at e1
   have hjX : (j : Int) < n := by omega
   have HT := hid (show usedC (cs.take (j + 1)) = usedC (cs.take j) + (cs[j]'hjm).b.length from by
    unfold usedC; rw [take_succ_get _ _ hjm, List.map_append, List.sum_append]; simp)
   have HLE := hid (show usedC (cs.take (j + 1)) ≤ 1048576 from by
    have h1 : usedC cs = usedC (cs.take (j + 1)) + usedC (cs.drop (j + 1)) := by
     unfold usedC
     rw [← List.sum_append, ← List.map_append, List.take_append_drop]
    have := HU.out
    omega)
   clear hz hcell hb
   generalize (cs[j]'hjm).b.length = q at *
   generalize hu2 : usedC (cs.take j) = u at *
   have hle : u + q ≤ 1048576 := by have := HT.out; have := HLE.out; omega
   clear hu2
   go_wp2
   go_round
   case rel => exact ⟨j + 1, by omega, by go_num, by rw [HT.out]; go_num⟩
   case measure => simp [intOf]; omega
  ·obtain rfl : j = n := by omega
   have HT := hid (show usedC (cs.take j) = usedC cs by rw [List.take_of_length_le (by rw [HN.out]; exact Nat.le_refl _)])
   rw [HT.out]
   go_wp2
   go_ret
   exact ⟨rfl, rfl⟩
theorem rd_own_cells2 {α : Type} {E : El α} {w : World} {base : Nat} {T : TypeId} {S : BS} {g cap n : Nat} {xs : List α} (h : Own E w base T S (.slice (some ⟨g, 0, none⟩) n cap) xs) :
  ∃ cur, base ≤ g ∧ n = xs.length ∧ Blk w g T cur ∧ xs.length ≤ cap ∧ cap ≤ maxLen ∧ cur.size = cap * E.size ∧ Cells E w S (cur.toList.take (xs.length * E.size)) xs := by
 rcases h with ⟨h, _⟩ | ⟨g', cap', cur, e, h1, h2, h3, h4, h5, h6⟩
 ·cases h
 ·injection e with e1 e2 e3
  injection e1 with e1
  injection e1 with e1 _ _
  subst e1 e2 e3
  exact ⟨cur, h1, rfl, h2, h3, h4, h5, h6⟩
theorem rd_take_mid {l m : List Value} {o k n : Nat} (hm : m.length = k) (ho : o + k ≤ n) (hn : n ≤ l.length) : (l.take o ++ m ++ l.drop (o + k)).take n = (l.take n).take o ++ (m ++ (l.take n).drop (o + k)) := by
 have h1 : (l.take o).length = o := by rw [List.length_take]; omega
 rw [List.append_assoc, List.take_append, List.take_of_length_le (l := l.take o) (by omega), List.take_append, List.take_of_length_le (l := m) (by omega), List.drop_take, List.take_take, Nat.min_eq_left (by omega), h1, hm,
  show n - o - k = n - (o + k) from by omega]
theorem rd_own_set {α : Type} {E : El α} (hE : E.Ok) {w w' : World} {base : Nat} {T : TypeId} {S S2 : BS} {g cap i : Nat} {xs : List α} {m : List Value} {x : α} {cur cur' : Array Value} (hc : Cells E w S (cur.toList.take (xs.length * E.size)) xs) (hbg : base ≤ g) (hcap : xs.length ≤ cap) (hcm : cap ≤ maxLen) (hsz : cur.size = cap * E.size)
  (hi : i < xs.length) (hk : Keep (· = g) w w') (hb' : Blk w' g T cur') (hl' : cur'.toList = cur.toList.take (i * E.size) ++ m ++ cur.toList.drop (i * E.size + E.size)) (hx : E.rd w' S2 m x) (hS : ¬ S g) :
  Own E w' base T (fun q => S q ∨ S2 q) (.slice (some ⟨g, 0, none⟩) xs.length cap) (xs.set i x) := by
 have hml := hE.len hx
 obtain ⟨n, hn⟩ : ∃ n, n = xs.length := ⟨_, rfl⟩
 rw [← hn] at hc hcap hi ⊢
 have h1 := (hc.split hE i (by omega)).1
 have h2 := (hc.split hE (i + 1) (by omega)).2
 have e1 : (i + 1) * E.size = i * E.size + E.size := Nat.succ_mul i _
 have e2 : (i + 1) * E.size ≤ n * E.size := Nat.mul_le_mul_right _ (by omega)
 have e3 : n * E.size ≤ cap * E.size := Nat.mul_le_mul_right _ hcap
 have hlen : cur.toList.length = cap * E.size := by simpa using hsz
 refine .inr ⟨g, cap, cur', by rw [List.length_set, ← hn], hbg, hb', by rw [List.length_set]; omega, hcm, ?_, ?_⟩
 ·have := congrArg List.length hl'
  rw [List.length_append, List.length_append, List.length_take, List.length_drop, hml, hlen] at this
  have h4 : cur'.toList.length = cur'.size := by simp
  omega
 rw [List.length_set, hl', List.set_eq_take_append_cons_drop, if_pos (by omega)]
 have key := rd_take_mid (l := cur.toList) (m := m) (o := i * E.size) (k := E.size) (n := n * E.size) hml (by omega) (by omega)
 rw [← hn, key, ← e1]
 exact ((h1.keep hE hk fun k hk e => hS (e ▸ hk)).more hE fun _ _ h => .inl h).append (Cells.append (xs := [x]) (Cells.single (hE.more hx fun _ _ h => .inr h)) ((h2.keep hE hk fun k hk e => hS (e ▸ hk)).more hE fun _ _ h => .inl h))
theorem set_mid (l : List Value) (o : Nat) (a b c u : Value) (h : ∀ j v, [a, b, c][j]? = some v → l[o + j]? = some v) : l.set (o + 1) u = l.take o ++ [a, u, c] ++ l.drop (o + 3) := by
 have h0 := h 0 a rfl
 have h1 := h 1 b rfl
 have h2 := h 2 c rfl
 apply List.ext_getElem?
 intro i
 have hl : o + 2 < l.length := (List.getElem?_eq_some_iff.1 h2).1
 have ht : (l.take o).length = o := by rw [List.length_take]; omega
 rw [List.getElem?_set]
 rcases Nat.lt_or_ge i o with hi | hi
 ·rw [if_neg (by omega), List.append_assoc, List.getElem?_append_left (by omega), List.getElem?_take_of_lt hi]
 ·rw [List.append_assoc, List.getElem?_append_right (by omega), ht]
  obtain ⟨k, rfl⟩ : ∃ k, i = o + k := ⟨i - o, by omega⟩
  rw [Nat.add_sub_cancel_left]
  match k with
  | 0 => rw [if_neg (by omega)]; simpa using h0
  | 1 => rw [if_pos rfl, if_pos (by omega)]; rfl
  | 2 => rw [if_neg (by omega)]; simpa using h2
  | k + 3 => rw [if_neg (by omega), List.getElem?_append_right (by simp), List.getElem?_drop]; simp; congr 1; omega
theorem set_mid2 (l : List Value) (o : Nat) (a b c u : Value) (h : ∀ j v, [a, b, c][j]? = some v → l[o + j]? = some v) : l.set (o + 2) u = l.take o ++ [a, b, u] ++ l.drop (o + 3) := by
 have h0 := h 0 a rfl
 have h1 := h 1 b rfl
 have h2 := h 2 c rfl
 apply List.ext_getElem?
 intro i
 have hl : o + 2 < l.length := (List.getElem?_eq_some_iff.1 h2).1
 have ht : (l.take o).length = o := by rw [List.length_take]; omega
 rw [List.getElem?_set]
 rcases Nat.lt_or_ge i o with hi | hi
 ·rw [if_neg (by omega), List.append_assoc, List.getElem?_append_left (by omega), List.getElem?_take_of_lt hi]
 ·rw [List.append_assoc, List.getElem?_append_right (by omega), ht]
  obtain ⟨k, rfl⟩ : ∃ k, i = o + k := ⟨i - o, by omega⟩
  rw [Nat.add_sub_cancel_left]
  match k with
  | 0 => rw [if_neg (by omega)]; simpa using h0
  | 1 => rw [if_neg (by omega)]; simpa using h1
  | 2 => rw [if_pos rfl, if_pos (by omega)]; rfl
  | k + 3 => rw [if_neg (by omega), List.getElem?_append_right (by simp), List.getElem?_drop]; simp; congr 1; omega
theorem own_setB {w : World} {S : BS} {g cap n k : Nat} {cs : List DC} {bv : Value} {b : List UInt8} (h : Own EFl w 0 TRF S (.slice (some ⟨g, 0, none⟩) n cap) cs) (hk : k < cs.length) (hS : ¬ S g) {S2 : BS} (hb : BytesS w S2 bv b) (hS2 : ¬ S2 g) :
  Own EFl (w.setCell ⟨g, k * 3 + 1, none⟩ bv) 0 TRF (fun q => S q ∨ S2 q) (.slice (some ⟨g, 0, none⟩) n cap) (cs.set k { cs[k] with b := b }) := by
 obtain ⟨cur, h1, hn, h2, h3, h4, h5, h6⟩ := rd_own_cells2 h
 obtain ⟨c0, ⟨bv0, rfl, hb0⟩, hcell⟩ := h6.get EFl.ok hk
 have e3 : EFl.size = 3 := rfl
 have hks : Keep (· = g) w (w.setCell ⟨g, k * 3 + 1, none⟩ bv) := (Keep.refl _ _).set1 _ _
 subst hn
 refine rd_own_set EFl.ok (cur := cur) (m := [.string (textOf cs[k].name), bv, .int .i64 (cs[k].l : Int)]) h6 (Nat.zero_le _) h3 h4 h5 hk hks (h2.set_ _ _) ?_ ⟨bv, rfl, hb.keep EU8.ok hks fun q h e => hS2 (e ▸ h)⟩ hS
 rw [Array.toList_setIfInBounds, e3]
 refine set_mid _ _ _ bv0 _ _ fun j v hv => ?_
 have := hcell j v hv
 rw [e3, List.getElem?_take_of_lt] at this
 ·exact this
 ·have : j < 3 := (List.getElem?_eq_some_iff.1 hv).1
  have h7 : (k + 1) * 3 ≤ cs.length * 3 := Nat.mul_le_mul_right _ hk
  omega
theorem own_setL {w : World} {S : BS} {g cap n k : Nat} {cs : List DC} {l : Nat} (h : Own EFl w 0 TRF S (.slice (some ⟨g, 0, none⟩) n cap) cs) (hk : k < cs.length) (hS : ¬ S g) :
  Own EFl (w.setCell ⟨g, k * 3 + 2, none⟩ (.int .i64 (l : Int))) 0 TRF S (.slice (some ⟨g, 0, none⟩) n cap) (cs.set k { cs[k] with l := l }) := by
 obtain ⟨cur, h1, hn, h2, h3, h4, h5, h6⟩ := rd_own_cells2 h
 obtain ⟨c0, ⟨bv0, rfl, hb0⟩, hcell⟩ := h6.get EFl.ok hk
 have e3 : EFl.size = 3 := rfl
 have hks : Keep (· = g) w (w.setCell ⟨g, k * 3 + 2, none⟩ (.int .i64 (l : Int))) := (Keep.refl _ _).set1 _ _
 subst hn
 have hset : Own EFl (w.setCell ⟨g, k * 3 + 2, none⟩ (.int .i64 (l : Int))) 0 TRF (fun q => S q ∨ S q) (.slice (some ⟨g, 0, none⟩) cs.length cap) (cs.set k { cs[k] with l := l }) := by
  refine rd_own_set EFl.ok (S2 := S) (cur := cur) (m := [.string (textOf cs[k].name), bv0, .int .i64 (l : Int)]) h6 (Nat.zero_le _) h3 h4 h5 hk hks (h2.set_ _ _) ?_ ⟨bv0, rfl, hb0.keep EU8.ok hks fun q h e => hS (e ▸ h)⟩ hS
  rw [Array.toList_setIfInBounds, e3]
  refine set_mid2 _ _ _ bv0 (.int .i64 (cs[k].l : Int)) _ fun j v hv => ?_
  have := hcell j v hv
  rw [e3, List.getElem?_take_of_lt] at this
  ·exact this
  ·have : j < 3 := (List.getElem?_eq_some_iff.1 hv).1
   have h7 : (k + 1) * 3 ≤ cs.length * 3 := Nat.mul_le_mul_right _ hk
   omega
 exact hset.more EFl.ok fun _ _ h => h.elim id id
theorem find_cases (cs : List DC) (nm : List UInt8) : (findZ cs nm = -1 ∧ findC cs nm = none ∧ hasC cs nm = false) ∨ ∃ k, ∃ hk : k < cs.length, findZ cs nm = (k : Int) ∧ findC cs nm = some cs[k] ∧ cs[k].name = nm ∧ hasC cs nm = true := by
 by_cases h : posC cs nm < cs.length
 ·right
  have hn : (cs[posC cs nm]'h).name = nm := by
   have := List.findIdx_getElem (p := fun c : DC => c.name == nm) (w := h)
   simp only [beq_iff_eq] at this
   exact this
  refine ⟨posC cs nm, h, by unfold findZ; rw [if_pos h], ?_, hn, List.any_eq_true.2 ⟨_, List.getElem_mem h, by simpa using hn⟩⟩
  unfold findC
  rw [List.find?_eq_some_iff_getElem]
  refine ⟨by simpa using hn, posC cs nm, h, rfl, fun j hj => ?_⟩
  have := List.not_of_lt_findIdx (p := fun c : DC => c.name == nm) (xs := cs) (i := j) hj
  simpa using this
 ·left
  have hall : ∀ c ∈ cs, ¬ (c.name == nm) = true := fun c hc e => h (List.findIdx_lt_length_of_exists ⟨c, hc, e⟩)
  refine ⟨by unfold findZ; rw [if_neg h], List.find?_eq_none.2 hall, ?_⟩
  unfold hasC
  rw [List.any_eq_false]
  exact hall
theorem upd_set {g : DC → DC} {nm : List UInt8} : ∀ {cs : List DC} {k : Nat} (hk : k < cs.length), cs.Pairwise (fun x y => x.name ≠ y.name) → (cs[k]'hk).name = nm → updC g cs nm = cs.set k (g (cs[k]'hk))
 | c :: r, 0, _, hp, e => by
  have e : c.name = nm := e
  obtain ⟨h1, h2⟩ := List.pairwise_cons.1 hp
  have := updC_none g (cs := r) (n := nm) fun y hy hyn => h1 y hy (e.trans hyn.symm)
  unfold updC at this ⊢
  rw [List.map_cons, if_pos e, this]
  rfl
 | c :: r, k + 1, hk, hp, e => by
  obtain ⟨h1, h2⟩ := List.pairwise_cons.1 hp
  have hk' : k < r.length := by simpa using hk
  have e' : (r[k]'hk').name = nm := by simpa using e
  have hne : c.name ≠ nm := fun h => h1 _ (List.getElem_mem hk') (h.trans e'.symm)
  have ih := upd_set (g := g) hk' h2 e'
  unfold updC at ih ⊢
  rw [List.map_cons, if_neg hne, ih]
  rfl
def RReadIs (w : World) (cs : List DC) (name : List UInt8) (e : Ending) (w' : World) : Prop := ∃ A k, e = .returned (.tuple #[.slice A (readR cs name).2.length k, .int .i64 (readR cs name).1]) ∧ BytesS w' (fun q => w.heap.size ≤ q) (.slice A (readR cs name).2.length k) (readR cs name).2 ∧ Ext w w'
theorem ref_read (w : World) (B : BS) (r : Nat) (cs : List DC) (s : DSt) (name : ByteArray) (hu : usedC cs ≤ 1048576) (h : RdIs w B r cs s) :
  Calls Tryz.prog 48 #[.pointer (some ⟨r, 0, none⟩), .string name] w (RReadIs w cs name.data.toList) := by
 have HF := hid (ref_find w B r cs s name h)
 obtain ⟨F, dead, h⟩ := h
 obtain ⟨_, c1, _, _, _⟩ := h.cells
 have hs := h.row.sl EFl.ok
 obtain ⟨A, c, rfl, hlc, hcm⟩ := hs.shape
 unfold maxLen at hcm
 rcases find_cases cs name.data.toList with ⟨hz, hf, _⟩ | ⟨k, hk, hz, hf, hn, _⟩
 ·have HR := hid (show readR cs name.data.toList = (131, []) by unfold readR; rw [hf])
  have HZ := hid hz
  clear hs h hz hf hu
  go_enter Tryz.func48, Tryz.ntmps48
  go_wp2_with fail
  refine HF.out.mono ?_
  rw [HZ.out]
  rintro e w1 ⟨rfl, rfl⟩
  go_wp2_with fail
  refine bodyPost_ret (v := .tuple #[.slice none 0 0, .int .i64 131]) (by simp [results, Tryz.results48, go_sem]) rfl ?_
  unfold RReadIs
  rw [HR.out]
  exact ⟨none, 0, rfl, Sl.nil _ _, Keep.refl _ _⟩
 ·have HR := hid (show readR cs name.data.toList = (0, cs[k].b) by unfold readR; rw [hf])
  have HZ := hid hz
  have HU := hid (Nat.le_trans (mem_usedC (List.getElem_mem hk)) hu)
  obtain ⟨b1, o1, c0, rfl, _, _, ⟨bv, rfl, hb⟩, hcell⟩ := hs.at_ EFl.ok hk
  obtain ⟨A2, c2, rfl, _⟩ := hb.shape
  have e1 := hcell 1 _ rfl
  have e3 : EFl.size = 3 := rfl
  simp only [e3] at e1
  have hkX : (k : Int) < cs.length := by omega
  have HB := hid (hb.more (S' := fun q => q < w.heap.size) EU8.ok fun q hq _ => hq)
  clear hs h hz hf hu hcell e3 hn hb
  generalize hx : cs[k].b = x at *
  clear hx
  go_enter Tryz.func48, Tryz.ntmps48
  go_wp2_with fail
  refine HF.out.mono ?_
  rw [HZ.out]
  rintro e w1 ⟨rfl, rfl⟩
  go_wp2_with (at_builtin; refine wpList_append_bytes (v := .slice none 0 0) (y := .slice A2 x.length c2) (xs := []) (ys := x) (base := w.heap.size) (S2 := fun q => q < w.heap.size) rfl (.tmp 13) (.tmp 21) ty_u8 rfl rfl rfl (Own.nil _ _ _ _) HB.out (fun g hg => by simp [Value.ownBlock] at hg) (by have := HU.out; simp; omega) (Nat.le_refl _) ?_)
  intro Ao co w2 hown hlo hco hk2
  have hn0 : ([] : List UInt8).length + x.length = x.length := by simp
  try rw [hn0] at hown
  try rw [hn0]
  have HE := hid (show Ext w w2 from hk2.mono fun k _ h => by simp [Value.ownBlock] at h)
  have HO := hid ((hown.sl EU8.ok).more (S' := fun q => w.heap.size ≤ q) EU8.ok fun k _ h => by
   rcases h with h | h
   ·exact h.elim
   ·exact (hown.lt h).1)
  clear hown hk2 hn0 c1 e1
  go_wp2_with fail
  refine bodyPost_ret (v := .tuple #[.slice Ao x.length co, .int .i64 0]) (by simp [results, Tryz.results48, go_sem]) rfl ?_
  unfold RReadIs
  rw [HR.out]
  exact ⟨Ao, co, rfl, HO.out, HE.out⟩
def RRes (w : World) (B : BS) (r : Nat) (s : DSt) (x : Int × List DC) (e : Ending) (w' : World) : Prop := e = .returned (.int .i64 x.1) ∧ RdIs w' (moreB B w w') r x.2 { s with left := leftC s.left } ∧ Keep B w w'
theorem RdIs.moreB {w w' : World} {B : BS} {r : Nat} {cs : List DC} {s : DSt} (h : RdIs w' B r cs s) : RdIs w' (moreB B w w') r cs s := h.more fun _ _ h => .inl h
theorem RdAt.setRow {w w' : World} {B : BS} {r g n c : Nat} {cs cs' : List DC} {s : DSt} {dead : Bool} (h : RdAt w B r cs s (.slice (some ⟨g, 0, none⟩) n c) dead) (hk : Keep (· = g) w w')
  (hown : Own EFl w' 0 TRF (fun k => B k ∧ k ≠ r ∧ (Value.slice (some ⟨g, 0, none⟩) n c).ownBlock ≠ some k) (.slice (some ⟨g, 0, none⟩) n c) cs') : RdAt w' B r cs' s (.slice (some ⟨g, 0, none⟩) n c) dead :=
 ⟨h.own, h.blk.keep hk (fun e => (h.ownF g rfl).2 e.symm), hown, h.ownF, h.dead⟩
theorem ref_sync (w : World) (B : BS) (r : Nat) (cs : List DC) (s : DSt) (name : ByteArray) (hl : -1 ≤ s.left ∧ s.left ≤ 9223372036854775807) (hp : cs.Pairwise fun x y => x.name ≠ y.name) (h : RdIs w B r cs s) :
  Calls Tryz.prog 41 #[.pointer (some ⟨r, 0, none⟩), .string name] w (RRes w B r s (syncR cs s name.data.toList)) := by
 have HC := hid (ref_call w B r cs s hl h)
 obtain ⟨F0, dead0, h0⟩ := h
 have hB := h0.own
 obtain ⟨g, hg⟩ : ∃ g, goesC s.left = g := ⟨_, rfl⟩
 have HG := hid hg
 have HP := hid hp
 clear h0 hl hg hp
 go_enter Tryz.func41, Tryz.ntmps41
 go_wp2_with fail
 refine HC.out.mono ?_
 rw [HG.out]
 rintro e wz ⟨rfl, hr, hk⟩
 have HR := hid hr
 have HK := hid (show Keep B w wz from hk.mono fun k _ e => by subst e; exact hB)
 clear hr hk HC hB
 cases g with
 | false =>
  have HE := hid (show syncR cs s name.data.toList = (130, cs) by rw [syncR, if_pos HG.out])
  go_wp2
  go_ret
  unfold RRes
  rw [HE.out]
  exact ⟨rfl, HR.out.moreB, HK.out⟩
 | true =>
  go_wp2_with fail
  refine (ref_find wz B r cs _ name HR.out).mono ?_
  rcases find_cases cs name.data.toList with ⟨hz, hf, hh⟩ | ⟨k, hk, hz, hf, hn, hh⟩
  ·rw [hz]
   have HE := hid (show syncR cs s name.data.toList = (131, cs) by rw [syncR, if_neg (by simp [HG.out]), if_neg (by simp [hh])])
   clear hz hf hh
   rintro e w1 ⟨rfl, rfl⟩
   go_wp2
   go_ret
   unfold RRes
   rw [HE.out]
   exact ⟨rfl, HR.out.moreB, HK.out⟩
  ·rw [hz]
   have HE := hid (show syncR cs s name.data.toList = (0, cs.set k (syncC cs[k])) by rw [syncR, if_neg (by simp [HG.out]), if_pos hh, upd_set hk HP.out hn])
   obtain ⟨F, dead, h⟩ := HR.out
   obtain ⟨_, c1, _, _, _⟩ := h.cells
   obtain ⟨A, c, rfl, hlc, hcm⟩ := h.row.shape
   obtain ⟨g, rfl⟩ : ∃ g, A = some ⟨g, 0, none⟩ := by
    obtain ⟨g, cap, e, _⟩ := h.row.form (by omega)
    injection e with e1
    exact ⟨g, e1⟩
   obtain ⟨c0, ⟨bv, rfl, hb⟩, hcell⟩ := h.row.at_ EFl.ok hk
   obtain ⟨A2, c2, rfl, _⟩ := hb.shape
   have e1 := hcell 1 _ rfl
   have e2 := hcell 2 _ rfl
   have e3 : EFl.size = 3 := rfl
   simp only [e3] at e1 e2
   have hfz := h.row.frozen
   have hkX : (k : Int) < cs.length := by omega
   unfold maxLen at hcm
   have HH := hid h
   have HNF := hid (h.ownF g rfl)
   clear h hz hf hh hcell e3 hn hb
   rintro e w1 ⟨rfl, rfl⟩
   generalize hbl : cs[k].b.length = q at *
   have HBL := hid hbl
   clear hbl
   go_wp2_with fail
   refine wp_region_parts [] [0, 1, 2, 3, 4, 5, 6, 7, 8, 9, 10, 11, 12, 13, 14, 15] [16] (specOf []) (fun w' => Ext wz w') stable_nil (stableC_ext _) (by kernel_rfl) (by kernel_rfl) (Keep.drew (Keep.refl _ _)) ?_
   refine pure_nil ?_
   iterate 16
    (try simp only [Act.put, sqa, sqb, sqc])
    refine growP_run rfl rfl rfl ?_
    apply Exists.intro
    refine ⟨fun w' hC hK => ?_, ?_⟩
    ·have c1 := sqw hC c1
     have e1 := sqw hC e1
     go_simp
     rfl
   refine growP_nil fun w4 hC hK => ?_
   have hC : Ext wz w4 := hC
   have e2' := (hC.cell (lt_of_cell e2) id).trans e2
   have hH4 := HH.out.keep hC fun _ _ x => x
   have hfz4 := hH4.row.frozen
   have HH4 := hid hH4
   have HK4 := hid (HK.out.ext hC)
   clear hC hK hH4 e1 e2 c1 hfz
   change wpList _ _ _ (_ :: []) _ _
   (try simp only [Act.put, sqa, sqb, sqc])
   go_wp2_with fail
   refine NoPanic.normal ?_
   go_wp2
   go_ret
   unfold RRes
   rw [HE.out]
   have hks : Keep (· = g) w4 (w4.setCell ⟨g, k * 3 + 2, none⟩ (.int .i64 (q : Int))) := (Keep.refl _ _).set1 _ _
   refine ⟨rfl, RdIs.moreB ⟨_, dead, HH4.out.setRow hks ?_⟩, HK4.out.trans hks fun k _ e => by subst e; exact HNF.out.1⟩
   have := own_setL (l := q) HH4.out.row hk (fun h => h.2.2 rfl)
   rw [show (syncC cs[k]) = { cs[k] with l := q } from by unfold syncC; rw [HBL.out]]
   exact this
theorem own_low {α : Type} {E : El α} {w : World} {base : Nat} {T : TypeId} {S : BS} {v : Value} {xs : List α} (h : Own E w base T S v xs) : Own E w 0 T S v xs := h.elim .inl fun ⟨g, c, cur, e, _, q⟩ => .inr ⟨g, c, cur, e, Nat.zero_le _, q⟩
def texC (cs : List DC) : List ByteArray := cs.map fun c => textOf c.name
theorem ty_strsR : TyInfo Tryz.prog 99 9 1 16 := by
 obtain ⟨i, h1, h2, h3, h4⟩ := info_parts (show (Tryz.prog.info? 9).map (fun i => (i.zero, i.size, i.bytes)) = some (some (.string ⟨#[]⟩), 1, 16) from by kernel_rfl)
 exact ⟨Tryz.underlying99, i, _, h1, h2, h3, h4, rfl⟩
theorem ref_names (w : World) (B : BS) (r : Nat) (cs : List DC) (s : DSt) (hc : cs.length ≤ 64) (h : RdIs w B r cs s) :
  Calls Tryz.prog 44 #[.pointer (some ⟨r, 0, none⟩)] w fun e w' => ∃ v, e = .returned v ∧ Sl EStr w' (fun q => w.heap.size ≤ q) v (texC cs) ∧ Ext w w' := by
 obtain ⟨F, dead, h⟩ := h
 obtain ⟨_, c1, _, _, _⟩ := h.cells
 have hs := h.row.sl EFl.ok
 obtain ⟨A, c, rfl, hlc, hcm⟩ := hs.shape
 unfold maxLen at hcm
 have HS := hid hs
 have hte : texC (cs.take cs.length) = texC cs := by rw [List.take_length]
 have HTE := hid hte
 have HRB := hid h.blk.lt
 clear h hs hte
 generalize hn : cs.length = n at *
 have HN := hid hn
 have C1 := hid c1
 clear hn
 go_enter Tryz.func44, Tryz.ntmps44
 go_wp2_with fail
 clear c1
 go_loopw [3, 4] (fun x y wr => ∃ (j : Nat), j ≤ n ∧ y = .int .i64 j ∧ Own EStr wr w.heap.size 9 (fun _ => False) x (texC (cs.take j)) ∧ Ext w wr) (fun _ y _ => n - (intOf y).toNat)
 case atStart => exact ⟨0, by omega, rfl, Own.nil _ _ _ _, Keep.refl _ _⟩
 case round =>
  obtain ⟨j, hj, rfl, hown, hr⟩ := hrel
  obtain ⟨A4, c4, rfl, hl4, hc4⟩ := hown.shape
  have x1 := (hr.cell (lt_of_cell C1.out) id).trans C1.out
  have HOW := hid hown
  have HR := hid hr
  by_cases hlt : j < n
  ·have hjm : j < cs.length := by rw [HN.out]; exact hlt
   obtain ⟨b1, f1, d1, rfl, _, _, ⟨bv, rfl, _⟩, hcell⟩ := (HS.out.ext EFl.ok hr).at_ EFl.ok hjm
   have e0 := hcell 0 _ rfl
   have e3 : EFl.size = 3 := rfl
   simp only [e3, Nat.add_zero] at e0
   have HTS := hid (show texC (cs.take (j + 1)) = texC (cs.take j) ++ [textOf cs[j].name] by unfold texC; rw [List.take_succ_eq_append_getElem hjm, List.map_append]; rfl)
   have hjX : (j : Int) < n := by omega
   clear hown hr hcell e3
   generalize textOf cs[j].name = y at *
   have hst : Ext wr (wr.alloc (.cells #[.string y] 9)) := (Keep.refl _ _).alloc _
   have HOb := hid (HOW.out.ext EStr.ok hst)
   have HRx := hid (RowS.new (w := wr) (t := 9) (sz := 1) (n := 1) (cs := [.string y]) rfl (by simp [maxLen]) (0, 0))
   have HDx := hid (Cells.single (E := EStr) (w := wr.alloc (.cells #[.string y] 9)) (S := fun _ => False) (x := y) (cs := [.string y]) rfl)
   have HST := hid hst
   have HLN := hid (show (texC (cs.take j)).length ≤ j by unfold texC; rw [List.length_map, List.length_take]; omega)
   have HCC := hid hc
   clear hst hl4
   generalize texC (cs.take j) = ks at *
   go_wp2_with (at_builtin; refine wpList_own_append2 (ys := [y]) _ rfl (.tmp 14) (.tmp 23) EStr.ok ty_strsR rfl rfl rfl HOb.out HRx.out HDx.out ?d1 ?d2 ?d3 ?d4 ?_)
   case d1 => exact fun g hg => ⟨fun h => h, fun h => h⟩
   case d2 => have := HLN.out; have := HCC.out; simp only [List.length_singleton]; omega
   case d3 => have := HLN.out; have := HCC.out; simp only [List.length_singleton, maxLen]; omega
   case d4 => exact Nat.le_trans HR.out.size HST.out.size
   intro v' w' hown' hk hb
   obtain ⟨A7, c7, rfl, hl7, hc7⟩ := hown'.shape
   have HK := hid (show Ext w w' from (HR.out.ext HST.out).trans hk fun k hlt e => by
    have := (HOW.out.lt (show (Value.slice A4 ks.length c4).ownBlock = some k from e)).1; omega)
   have HO3 := hid (hown'.more (S' := fun _ => False) EStr.ok fun k _ h => by rcases h with h | h <;> exact h)
   clear hown' hk hb HOb HRx HDx HST
   go_wp2
   exact ⟨⟨j + 1, by omega, by go_num, by rw [HTS.out]; exact HO3.out, HK.out⟩, by simp [intOf]; omega⟩
  ·obtain rfl : j = n := by omega
   have hjX : ¬ (j : Int) < j := by omega
   clear hown hr hlt
   go_wp2
   go_ret
   refine ⟨_, rfl, ?_, HR.out⟩
   rw [← HTE.out]
   exact (HOW.out.sl EStr.ok).more EStr.ok fun q _ h => h.elim False.elim fun e => (HOW.out.lt e).1
theorem less_before : ∀ a b : List UInt8, Op.bytesLess a b = bytesBefore a b
 | [], [] => rfl
 | [], _ :: _ => rfl
 | _ :: _, [] => rfl
 | x :: a, y :: b => by simp [Op.bytesLess, bytesBefore, less_before a b]
theorem before_asymm : ∀ {a b : List UInt8}, bytesBefore a b = true → bytesBefore b a = false
 | [], [], _ => rfl
 | [], _ :: _, _ => rfl
 | _ :: _, [], h => by cases h
 | x :: a, y :: b, h => by
  simp only [bytesBefore, Bool.or_eq_true, Bool.and_eq_true, decide_eq_true_eq, beq_iff_eq] at h
  rcases h with h | ⟨rfl, h⟩
  ·have h1 : ¬ y < x := by rw [UInt8.lt_iff_toNat_lt] at *; omega
   have h2 : ¬ y = x := by rintro rfl; exact UInt8.lt_irrefl _ h
   simp [bytesBefore, h1, h2]
  ·simp [bytesBefore, before_asymm h]
theorem before_other : ∀ {a b : List UInt8}, a ≠ b → bytesBefore a b = false → bytesBefore b a = true
 | [], [], h, _ => absurd rfl h
 | [], _ :: _, _, h => by cases h
 | _ :: _, [], _, _ => rfl
 | x :: a, y :: b, hne, h => by
  simp only [bytesBefore, Bool.or_eq_false_iff, decide_eq_false_iff_not] at h
  obtain ⟨h1, h2⟩ := h
  by_cases he : x = y
  ·subst he
   have h3 := before_other (a := a) (b := b) (fun e => hne (by rw [e])) (by simpa using h2)
   simp [bytesBefore, h3]
  ·have h4 : y < x := by
    rw [UInt8.lt_iff_toNat_lt] at *
    have : x.toNat ≠ y.toNat := fun e => he (UInt8.toNat_inj.1 e)
    omega
   simp [bytesBefore, h4]
theorem insC_at {x : DC} : ∀ {cs : List DC} {p : Nat}, p ≤ cs.length → (∀ i (hi : i < cs.length), i < p → bytesBefore (cs[i]'hi).name x.name = true) → (∀ h : p < cs.length, bytesBefore (cs[p]'h).name x.name = false) → (∀ c ∈ cs, c.name ≠ x.name) → insC x cs = cs.take p ++ x :: cs.drop p
 | [], p, hp, _, _, _ => by
  obtain rfl : p = 0 := by simpa using hp
  rfl
 | c :: r, 0, _, _, h2, hne => by
  have h := h2 (by simp)
  have h : bytesBefore c.name x.name = false := h
  rw [insC, if_pos (before_other (hne c (by simp)) h)]; rfl
 | c :: r, p + 1, hp, h1, h2, hne => by
  have h : bytesBefore c.name x.name = true := h1 0 (by simp) (by omega)
  rw [insC, if_neg (by rw [before_asymm h]; simp), insC_at (p := p) (by simpa using hp) (fun i hi hip => h1 (i + 1) (by simpa using hi) (by omega)) (fun h => h2 (by simpa using h)) (fun c hc => hne c (by simp [hc]))]
  rfl
theorem ins_set {cs : List DC} {nm b : List UInt8} {p : Nat} (hp : p ≤ cs.length) : (cs.take p ++ ⟨nm, [], 0⟩ :: cs.drop p).set p ⟨nm, b, 0⟩ = cs.take p ++ ⟨nm, b, 0⟩ :: cs.drop p := by
 have h1 : (cs.take p).length = p := by rw [List.length_take]; omega
 rw [List.set_append_right _ _ (by omega), h1, Nat.sub_self]
 rfl
theorem insC_swap {nm b : List UInt8} {cs : List DC} {p : Nat} (hp : p ≤ cs.length) (h1 : ∀ i (hi : i < cs.length), i < p → Op.bytesLess (cs[i]'hi).name nm = true) (h2 : ∀ h : p < cs.length, Op.bytesLess (cs[p]'h).name nm = false) (hne : hasC cs nm = false) :
  insC ⟨nm, b, 0⟩ cs = (cs.take p ++ ⟨nm, [], 0⟩ :: cs.drop p).set p ⟨nm, b, 0⟩ := by
 rw [ins_set hp]
 refine insC_at hp (fun i hi hip => by rw [← less_before]; exact h1 i hi hip) (fun h => by rw [← less_before]; exact h2 h) fun c hc e => ?_
 unfold hasC at hne
 rw [List.any_eq_false] at hne
 exact hne c hc (by simpa using e)
theorem ins_len {cs : List DC} {x : DC} {p : Nat} (hp : p ≤ cs.length) : (cs.take p ++ x :: cs.drop p).length = cs.length + 1 := by simp; omega
theorem rd_ins_get {cs : List DC} {x : DC} {p : Nat} (hp : p ≤ cs.length) : (cs.take p ++ x :: cs.drop p)[p]'(by rw [ins_len hp]; omega) = x := by
 have h1 : (cs.take p).length = p := by rw [List.length_take]; omega
 rw [List.getElem_append_right (by omega)]
 simp [h1]
end Go.Proofs.YtihaliffcobacaaGreatDoor
