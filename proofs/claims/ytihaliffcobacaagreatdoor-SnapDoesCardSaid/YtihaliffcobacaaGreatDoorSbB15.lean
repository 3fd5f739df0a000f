/- Crc, CrcLaw, FrameL, FrameN, SnapP, BytesClone, DiskA, DiskB, DiskR: laid together. -/
import Derived.Test.YtihaliffcobacaaGreatDoorSbB12
import Derived.Test.YtihaliffcobacaaGreatDoorRows
import Derived.Test.YtihaliffcobacaaGreatDoorSbB2
import Derived.WalkKit
import Derived.WalkSpells
import Derived.Maps.RangeWalk
import Derived.StringKeys
import Derived.Tactics
import Derived.Tactics2
import Derived.Laws.Pointers
import Derived.Laws.LoneSync
import Derived.RegionTactic
import Derived.RegionCalls
import Derived.ChangeAlike
import Derived.Sort.EncStr
import Derived.Sort.KeysCollected
set_option linter.unusedSimpArgs false
set_option linter.unusedVariables false
set_option maxHeartbeats 25600000
set_option maxRecDepth 20000
namespace Go.Proofs.YtihaliffcobacaaGreatDoor
def crcBit (x : BitVec 32) : BitVec 32 := (x >>> 1) ^^^ (0xedb88320#32 * (x &&& 1#32))
def crcBits : Nat → BitVec 32 → BitVec 32
 | 0, x => x
 | n + 1, x => crcBit (crcBits n x)
theorem and_one (x : BitVec 32) : x &&& 1#32 = if x[0] then 1#32 else 0#32 := by
 apply BitVec.eq_of_getLsbD_eq
 intro i hi
 cases h : x[0] <;> simp [BitVec.getLsbD_one, BitVec.getLsbD_and]
 ·intro h1 h0; subst h0; rw [BitVec.getLsbD_eq_getElem (by omega)] at h1; rw [h] at h1; cases h1
 ·intro h0; subst h0; rw [BitVec.getLsbD_eq_getElem (by omega)]; exact h
theorem crcBit_eq (x : BitVec 32) : crcBit x = (x >>> 1) ^^^ (if x[0] then 0xedb88320#32 else 0#32) := by
 unfold crcBit
 rw [and_one]
 cases h : x[0] <;> simp
theorem crcBit_xor (x y : BitVec 32) : crcBit (x ^^^ y) = crcBit x ^^^ crcBit y := by
 simp only [crcBit_eq, BitVec.getElem_xor, BitVec.ushiftRight_xor_distrib]
 have e : ∀ a b c d : BitVec 32, a ^^^ b ^^^ (c ^^^ d) = (a ^^^ c) ^^^ (b ^^^ d) := by intros; ac_rfl
 rw [e]
 congr 1
 cases hx : x[0] <;> cases hy : y[0] <;> simp
theorem crcBits_xor (n : Nat) (x y : BitVec 32) : crcBits n (x ^^^ y) = crcBits n x ^^^ crcBits n y := by
 induction n with
 | zero => rfl
 | succ n ih => simp only [crcBits, ih, crcBit_xor]
theorem crcBit_even (x : BitVec 32) (h : x[0] = false) : crcBit x = x >>> 1 := by
 rw [crcBit_eq, h]; simp
theorem crcBits_low (n : Nat) (x : BitVec 32) (h : ∀ i, i < n → x.getLsbD i = false) : crcBits n x = x >>> n := by
 induction n with
 | zero => simp [crcBits]
 | succ n ih =>
  simp only [crcBits]
  rw [ih (fun i hi => h i (by omega)), crcBit_even]
  ·rw [← BitVec.shiftRight_add]
  ·simpa using h n (by omega)
def crcTab (i : Nat) : BitVec 32 := crcBits 8 (BitVec.ofNat 32 i)
def crcStep (c : BitVec 32) (b : BitVec 8) : BitVec 32 := crcBits 8 (c ^^^ b.zeroExtend 32)
theorem crcStep_eq (c : BitVec 32) (b : BitVec 8) : crcTab (c.setWidth 8 ^^^ b).toNat ^^^ (c >>> 8) = crcStep c b := by
 unfold crcTab crcStep
 have e : c ^^^ b.zeroExtend 32 = BitVec.ofNat 32 (c.setWidth 8 ^^^ b).toNat ^^^ ((c >>> 8) <<< 8) := by
  apply BitVec.eq_of_getLsbD_eq
  intro i hi
  have e2 : (BitVec.ofNat 32 (c.setWidth 8 ^^^ b).toNat).getLsbD i = (c.setWidth 8 ^^^ b).getLsbD i := by
   simp only [BitVec.getLsbD_ofNat, hi, decide_true, Bool.true_and]; rfl
  simp only [BitVec.getLsbD_xor, e2, BitVec.getLsbD_setWidth, BitVec.getLsbD_shiftLeft, BitVec.getLsbD_ushiftRight, BitVec.zeroExtend]
  by_cases h8 : i < 8
  ·simp [h8, hi]
  ·simp only [h8, hi]; rw [show 8 + (i - 8) = i from by omega]; simp; exact Bool.xor_comm _ _
 rw [e, crcBits_xor, crcBits_low 8 ((c >>> 8) <<< 8)]
 ·congr 1
  apply BitVec.eq_of_getLsbD_eq
  intro i hi
  simp only [BitVec.getLsbD_shiftLeft, BitVec.getLsbD_ushiftRight]
  by_cases h8 : i < 24
  ·rw [show 8 + (8 + i - 8) = 8 + i from by omega]; simp; intros; omega
  ·simp; rw [BitVec.getLsbD_of_ge _ _ (by omega)]; simp
 ·intro i hi; simp [hi]
def crcAll (c : BitVec 32) (l : List (BitVec 8)) : BitVec 32 := l.foldl crcStep c
def crcOf (l : List UInt8) : BitVec 32 := crcAll 0xffffffff#32 (l.map (·.toBitVec))
def sumOf (l : List UInt8) : BitVec 32 := ~~~ crcOf l
theorem crcOf_snoc (l : List UInt8) (x : UInt8) : crcOf (l ++ [x]) = crcStep (crcOf l) x.toBitVec := by
 simp [crcOf, crcAll, List.foldl_append]
end Go.Proofs.YtihaliffcobacaaGreatDoor
namespace Go.Proofs.YtihaliffcobacaaGreatDoor
end Go.Proofs.YtihaliffcobacaaGreatDoor
namespace Go.Proofs.YtihaliffcobacaaGreatDoor
def fourL (n : Nat) : List UInt8 := [UInt8.ofNat (n / 16777216), UInt8.ofNat (n / 65536), UInt8.ofNat (n / 256), UInt8.ofNat n]
def numK (l : List UInt8) : Nat := l.foldl (fun n x => n * 256 + x.toNat) 0
def numL (l : List UInt8) : Nat := numK (l.take 4)
theorem fourL_length (n : Nat) : (fourL n).length = 4 := rfl
theorem numK_snoc (l : List UInt8) (x : UInt8) : numK (l ++ [x]) = numK l * 256 + x.toNat := by simp [numK, List.foldl_append]
theorem numK_lt : ∀ (n : Nat) (l : List UInt8), l.length = n → numK l < 256 ^ n
 | 0, l, h => by have := List.eq_nil_of_length_eq_zero h; subst this; simp [numK]
 | n + 1, l, h => by
  have e : l = l.take n ++ [l[n]] := by rw [← List.take_succ_eq_append_getElem]; exact (List.take_of_length_le (by omega)).symm
  have hl : (l.take n).length = n := by simp; omega
  have := numK_lt n _ hl
  rw [e, numK_snoc]
  have := (l[n]).toNat_lt
  rw [Nat.pow_succ]; omega
theorem numL_four (n : Nat) (h : n < 4294967296) (l : List UInt8) : numL (fourL n ++ l) = n := by
 show numK [UInt8.ofNat (n / 16777216), UInt8.ofNat (n / 65536), UInt8.ofNat (n / 256), UInt8.ofNat n] = n
 simp [numK]
 omega
theorem numL_lt (l : List UInt8) (h : 4 ≤ l.length) : numL l < 4294967296 := by
 have := numK_lt 4 (l.take 4) (by simp; omega)
 simpa [numL] using this
theorem numL_eq (l : List UInt8) (h : 4 ≤ l.length) : numL l = ((l[0].toNat * 256 + l[1].toNat) * 256 + l[2].toNat) * 256 + l[3].toNat := by
 match l, h with
 | a :: b :: c :: d :: r, _ => simp [numL, numK]
def frm (b : List UInt8) : List UInt8 := fourL b.length ++ (fourL (sumOf (fourL b.length ++ b)).toNat ++ b)
theorem frm_length (b : List UInt8) : (frm b).length = 8 + b.length := by simp [frm, fourL]; omega
def openL (b : List UInt8) : Option (List UInt8) :=
 if b.length < 8 then none
 else if min 60000 (b.length - 8) < numL b then none
 else if numL (b.drop 4) ≠ (sumOf (b.take 4 ++ (b.drop 8).take (numL b))).toNat then none
 else some ((b.drop 8).take (numL b))
theorem openL_length {b x : List UInt8} (h : openL b = some x) : 8 + x.length ≤ b.length ∧ x.length = numL b ∧ x.length ≤ 60000 := by
 unfold openL at h
 split at h
 ·cases h
 ·split at h
  ·cases h
  ·split at h
   ·cases h
   ·injection h with h
    subst h
    simp only [List.length_take, List.length_drop]
    omega
theorem openL_frm (b r : List UInt8) (h : b.length ≤ 60000) : openL (frm b ++ r) = some b := by
 have h1 : numL (frm b ++ r) = b.length := by
  unfold frm; rw [List.append_assoc]; exact numL_four _ (by omega) _
 have h2 : (frm b ++ r).drop 4 = fourL (sumOf (fourL b.length ++ b)).toNat ++ (b ++ r) := by simp [frm, fourL]
 have h3 : (frm b ++ r).take 4 = fourL b.length := by simp [frm, fourL]
 have h4 : (frm b ++ r).drop 8 = b ++ r := by simp [frm, fourL]
 unfold openL
 rw [if_neg (by rw [List.length_append, frm_length]; omega), h1, if_neg (by rw [List.length_append, frm_length]; omega), h2, h3, h4, numL_four _ (BitVec.isLt _), List.take_left, if_neg (by simp)]
def scanL (b : List UInt8) : List (List UInt8) × Nat :=
 match h : openL b with
 | none => ([], 0)
 | some x => let r := scanL (b.drop (8 + x.length)); (x :: r.1, 8 + x.length + r.2)
termination_by b.length
decreasing_by have := openL_length h; simp; omega
theorem scanL_none {b : List UInt8} (h : openL b = none) : scanL b = ([], 0) := by
 rw [scanL]; split
 ·rfl
 ·rename_i x hx; rw [h] at hx; cases hx
theorem scanL_some {b x : List UInt8} (h : openL b = some x) : scanL b = (x :: (scanL (b.drop (8 + x.length))).1, 8 + x.length + (scanL (b.drop (8 + x.length))).2) := by
 rw [scanL]; split
 ·rename_i hx; rw [h] at hx; cases hx
 ·rename_i y hy; rw [h] at hy; injection hy with hy; subst hy; rfl
end Go.Proofs.YtihaliffcobacaaGreatDoor
namespace Go.Proofs.YtihaliffcobacaaGreatDoor
def rowsL (ls : List (List UInt8)) : List UInt8 := (ls.map frm).flatten
theorem rowsL_cons (x : List UInt8) (ls : List (List UInt8)) : rowsL (x :: ls) = frm x ++ rowsL ls := rfl
theorem rowsL_snoc (ls : List (List UInt8)) (x : List UInt8) : rowsL (ls ++ [x]) = rowsL ls ++ frm x := by simp [rowsL]
theorem openL_nil : openL [] = none := by unfold openL; rw [if_pos (by simp)]
theorem scan_rows : ∀ ls : List (List UInt8), (∀ x ∈ ls, x.length ≤ 60000) → scanL (rowsL ls) = (ls, (rowsL ls).length)
 | [], _ => by rw [show rowsL [] = [] from rfl, scanL_none openL_nil]; rfl
 | x :: ls, h => by
  have h1 := scan_rows ls fun y hy => h y (List.mem_cons_of_mem _ hy)
  have h0 := openL_frm x (rowsL ls) (h x List.mem_cons_self)
  rw [rowsL_cons, scanL_some h0, show (frm x ++ rowsL ls).drop (8 + x.length) = rowsL ls from List.drop_left' (frm_length x), h1, List.length_append, frm_length]
def lensL (ls : List (List UInt8)) : Nat := (ls.map fun x => x.length + 8).sum
theorem lensL_rows : ∀ ls : List (List UInt8), (rowsL ls).length = lensL ls
 | [] => rfl
 | x :: ls => by rw [rowsL_cons, List.length_append, frm_length, lensL_rows ls]; simp [lensL]; omega
end Go.Proofs.YtihaliffcobacaaGreatDoor
namespace Go.Proofs.YtihaliffcobacaaGreatDoor
open Go.RowKit
structure Sh where
 n : Int
 there : Bool
 v : V
def shB (s : Sh) : List UInt8 := beN (u64 s.n) 8 ++ (if s.there = true then 1 :: valB s.v else [0])
def shC (s : Sh) : Int := if s.there = true then valC s.v else 0
def isZ (v : V) : Bool := v.kind == 0 && v.n == 0 && v.s.data.toList.isEmpty && v.l.isEmpty && v.o.isEmpty
theorem isZ_iff (v : V) : isZ v = true ↔ v = zV := by
 constructor
 ·intro h
  obtain ⟨k, n, s, l, o⟩ := v
  simp only [isZ, V.kind, V.n, V.s, V.l, V.o, Bool.and_eq_true, beq_iff_eq, List.isEmpty_iff] at h
  obtain ⟨⟨⟨⟨rfl, rfl⟩, h3⟩, rfl⟩, rfl⟩ := h
  obtain ⟨a⟩ := s
  have h3 : a.toList = [] := h3
  have : a = #[] := Array.eq_empty_of_size_eq_zero (by rw [← Array.length_toList, h3]; rfl)
  subst this
  rfl
 ·rintro rfl; rfl
def saveE (name : ByteArray) (s : Sh) : Int :=
 if name.size = 0 ∨ 20 < name.size ∨ s.n < 0 ∨ 5000 < s.n then 150
 else if s.there = false ∧ isZ s.v = false then 150
 else if shC s ≠ 0 then shC s
 else if 60000 < (shB s).length then 3 else 0
def ShOk (s : Sh) : Prop := 0 ≤ s.n ∧ s.n ≤ 5000 ∧ (s.there = false → s.v = zV) ∧ shC s = 0 ∧ NAll N64 s.v ∧ (shB s).length ≤ 60000
theorem clone_bytes (v : Value) (l : List UInt8) (S : BS) (w : World) (hv : BytesS w S v l) (hl : l.length ≤ 140737488355328) :
  Calls Tryz.prog 61 #[v] w fun e w' => ∃ v', e = .returned v' ∧ BytesS w' (fun k => w.heap.size ≤ k) v' l ∧ Ext w w' := by
 obtain ⟨A, c, rfl, h1, h2⟩ := hv.shape
 unfold maxLen at h2
 cases A with
 | none =>
  have hn : l = [] := by
   obtain ⟨cs, ⟨_, A', c', e, _, _, h3⟩, _⟩ := hv
   rcases Nat.eq_zero_or_pos l.length with h0 | h0
   ·exact List.eq_nil_of_length_eq_zero h0
   ·obtain ⟨b, off, e', _⟩ := h3 h0
    injection e with e1 _ _
    rw [e'] at e1
    cases e1
  subst hn
  have heq := Lib.run_eql_slice_nil (P := Tryz.prog) w 46 5 none 0 c 0 0 Tryz.underlying46
  rw [List.length_nil]
  go_enter Tryz.func61, Tryz.ntmps61
  go_wp2
  go_ret
  exact ⟨_, rfl, Sl.nil _ _, Keep.refl _ _⟩
 | some a =>
  have heq := Lib.run_eql_slice_nil (P := Tryz.prog) w 46 5 (some a) l.length c 0 0 Tryz.underlying46
  have hown : Own EU8 (w.alloc (.cells #[] 5)) w.heap.size 5 (fun _ => False) (.slice (some ⟨w.heap.size, 0, none⟩) 0 0) [] :=
   .inr ⟨w.heap.size, 0, #[], rfl, Nat.le_refl _, Blk.new _ _ _, by simp, by simp [maxLen], by simp, rfl⟩
  have hsrc := (hv.more (S' := fun k => S k ∧ k < w.heap.size) EU8.ok (fun k hk hs => ⟨hs, hk⟩)).ext EU8.ok ((Keep.refl _ _).alloc (.cells #[] 5))
  go_enter Tryz.func61, Tryz.ntmps61
  go_wp2_with (at_builtin; refine wpList_own_append _ rfl (.tmp 5) (.tmp 6) EU8.ok ty_u8 rfl rfl rfl hown hsrc ?c1 ?c2 ?c3 ?c4 ?_)
  case c1 => intro g hg; have hg : w.heap.size = g := Option.some.inj hg; exact ⟨id, fun h => by have := h.2; omega⟩
  case c2 => simp; omega
  case c3 => simp [maxLen]; omega
  case c4 => simp
  intro v' w' hown' hk hb
  have hE : Ext w w' := ((Keep.refl (fun _ => False) w).alloc _).trans hk (fun k hlt e => by have e : w.heap.size = k := Option.some.inj e; omega)
  have hout : BytesS w' (fun k => w.heap.size ≤ k) v' l := by
   obtain ⟨cs, h1, h2⟩ := hown'.rowS EU8.ok
   refine ⟨cs, h1.more fun k _ e => (hown'.lt e).1, ?_⟩
   rw [cells_U8 h2]
   exact U8_cells _
  have H := hid hout
  clear hout hown' hb hsrc hown
  go_wp2
  go_ret
  exact ⟨_, rfl, H.out, hE⟩
end Go.Proofs.YtihaliffcobacaaGreatDoor
namespace Go.Proofs.YtihaliffcobacaaGreatDoor
open Go.RowKit Go.Maps
abbrev TMAP : TypeId := 60
abbrev TSTR : TypeId := 9
abbrev TPFI : TypeId := 84
abbrev TDSK : TypeId := 67
abbrev TFIL : TypeId := 87
structure DC where
 name : List UInt8
 b : List UInt8
 l : Nat
structure DF where
 c : DC
 blk : Nat
abbrev Dt := DataW Unit
def fileElem : Value → Option (Dt × List MemPlace)
 | .pointer (some ⟨b, 0, none⟩) => some (.lit (.int .i64 (b : Int)), [])
 | .pointer none => some (.lit (.int .i64 (-1)), [])
 | _ => none
theorem fileElem_mk (b : Nat) : fileElem (.pointer (some ⟨b, 0, none⟩)) = some (.lit (.int .i64 (b : Int)), []) := rfl
theorem fileElem_inv {v : Value} {y : Dt × List MemPlace} (h : fileElem v = some y) : ∃ p : Option Nat, v = .pointer (p.map fun b => ⟨b, 0, none⟩) ∧ y = (.lit (.int .i64 (match p with | some b => (b : Int) | none => -1)), []) := by
 unfold fileElem at h
 split at h
 ·rename_i b; cases h; exact ⟨some b, rfl, rfl⟩
 ·cases h; exact ⟨none, rfl, rfl⟩
 ·cases h
def ent (f : DF) : Lit × Dt := (.string f.c.name, .lit (.int .i64 (f.blk : Int)))
theorem mapLaw : Keyed Tryz.prog TSTR := string_keyed Tryz.underlying9
theorem zeroPF (w : World) : (zeroValue TPFI).run Tryz.prog w = .ok (.pointer none) w := by kernel_rfl
abbrev TM := Tryz.underlying60
def MapIs (w : World) (m : Nat) (fs : List DF) : Prop := w.ownsMap (H := Unit) Tryz.prog TSTR fileElem m fs.length (.map (fs.map ent))
def findF (fs : List DF) (name : List UInt8) : Option DF := fs.find? fun f => f.c.name == name
def insF (x : DF) : List DF → List DF
 | [] => [x]
 | y :: r => if bytesBefore x.c.name y.c.name then x :: y :: r else y :: insF x r
def delF (fs : List DF) (name : List UInt8) : List DF := fs.filter fun f => !(f.c.name == name)
theorem insert_ent (x : DF) : ∀ fs : List DF, DataW.insert (ent x) (fs.map ent) = (insF x fs).map ent
 | [] => rfl
 | y :: r => by
  simp only [List.map_cons, DataW.insert, insF]
  show (if bytesBefore x.c.name y.c.name then _ else _) = _
  split
  ·rfl
  ·rw [insert_ent x r]; rfl
theorem mem_insF {x y : DF} : ∀ {fs : List DF}, y ∈ insF x fs ↔ y = x ∨ y ∈ fs
 | [] => by simp [insF]
 | z :: r => by
  rw [insF]
  split
  ·simp
  ·simp only [List.mem_cons, mem_insF (fs := r)]
   constructor
   ·rintro (h | h | h) <;> simp [h]
   ·rintro (h | h | h) <;> simp [h]
section
variable {w w' : World} {m : Nat} {fs : List DF} {name : ByteArray}
theorem ownsMap_keep {F : Nat → Prop} {P : Program} {k : TypeId} {R : Value → Option (Dt × List MemPlace)} {b n : Nat} {D : Dt} (h : w.ownsMap P k R b n D) (hk : Keep F w w') (hF : ¬ F b) : w'.ownsMap P k R b n D := by
 have hlt := h.lt
 obtain ⟨es, clock, hb, rest⟩ := h
 exact ⟨es, clock, (hk.block b hlt hF).trans hb, rest⟩
theorem ownsMap_tight {P : Program} {k : TypeId} {R : Value → Option (Dt × List MemPlace)} {b n : Nat} {es : List (Lit × Dt)} (h : w.ownsMap P k R b n (.map es)) : w.ownsMap P k R b es.length (.map es) := by
 obtain ⟨es', clock, hb, F, hs, hD⟩ := h
 refine ⟨es', clock, hb, F, ?_, hD⟩
 injection hD with hD
 rw [hD, length_sorted]
 simp
theorem MapIs.keep {F : Nat → Prop} (h : MapIs w m fs) (hk : Keep F w w') (hF : ¬ F m) : MapIs w' m fs := ownsMap_keep h hk hF
theorem MapIs.lt (h : MapIs w m fs) : m < w.heap.size := World.ownsMap.lt h
theorem MapIs.names (h : MapIs w m fs) : fs.Pairwise fun f g => f.c.name ≠ g.c.name := by
 obtain ⟨es, e, hp, _⟩ := World.ownsMap.entries h mapLaw
 injection e with e
 rw [← e, List.pairwise_map] at hp
 exact hp.imp fun h e => h (by show Lit.string _ = Lit.string _; rw [e])
theorem find_ent (n : List UInt8) : ∀ fs : List DF, (fs.map ent).find? (fun p => p.1.sameKey (.string n)) = (findF fs n).map ent
 | [] => rfl
 | f :: r => by
  have ih := find_ent n r
  unfold findF at ih ⊢
  simp only [List.map_cons, List.find?_cons]
  show (match (f.c.name == n) with | true => _ | false => _) = _
  cases (f.c.name == n)
  ·exact ih
  ·rfl
theorem atKey_ent (n : List UInt8) (fs : List DF) (z : Dt) : (DataW.map (fs.map ent)).atKey (.string n) z = match findF fs n with | some f => .lit (.int .i64 (f.blk : Int)) | none => z := by
 unfold DataW.atKey
 simp only [find_ent]
 cases findF fs n <;> rfl
def ptrF (o : Option DF) : Value := .pointer (o.map fun f => ⟨f.blk, 0, none⟩)
theorem MapIs.look (h : MapIs w m fs) (hn : name.size ≤ maxLen) : (Instr.lookup TMAP (.map (some m)) (.string name) false).run Tryz.prog w = .ok (ptrF (findF fs name.data.toList)) w := by
 obtain ⟨v, ps, hrun, hv⟩ := World.ownsMap.lookup h mapLaw TM (zeroPF w) (zd := .lit (.int .i64 (-1))) (zp := []) rfl (WideMaps.keyOf_string_mk Tryz.underlying9 hn)
 rw [hrun]
 rw [atKey_ent] at hv
 obtain ⟨p, rfl, hy⟩ := fileElem_inv hv
 clear hrun hv
 unfold ptrF
 generalize findF fs name.data.toList = o at *
 simp only [Prod.mk.injEq] at hy
 have h1 := hy.1
 clear hy
 cases o with
 | none =>
  cases p with
  | none => rfl
  | some b => simp at h1
 | some f =>
  cases p with
  | none => simp at h1
  | some b =>
   simp at h1
   have h1 : f.blk = b := by omega
   subst h1
   rfl
theorem findF_none {n : List UInt8} (h : findF fs n = none) : ∀ f ∈ fs, f.c.name ≠ n := fun f hf e => by
 have := List.find?_eq_none.1 h f hf
 simp [e] at this
theorem findF_some {n : List UInt8} {f : DF} (h : findF fs n = some f) : f ∈ fs ∧ f.c.name = n := by
 have h1 := List.mem_of_find?_eq_some h
 have h2 := List.find?_some h
 exact ⟨h1, by simpa using h2⟩
theorem notKey_ent {n : List UInt8} : (fs.map ent).filter (ChangeMaps.notKey (.string n)) = (delF fs n).map ent := by
 unfold delF
 rw [List.filter_map]
 rfl
theorem put_ent {n : List UInt8} {x : DF} (hx : x.c.name = n) (h : ∀ f ∈ fs, f.c.name ≠ n) : (DataW.map (fs.map ent)).put (.string n) (.lit (.int .i64 (x.blk : Int))) = .map ((insF x fs).map ent) := by
 rw [DataW.put_eq, ChangeMaps.putKey, notKey_ent]
 have : delF fs n = fs := List.filter_eq_self.2 fun f hf => by simpa using h f hf
 rw [this, ← insert_ent]
 subst hx
 rfl
theorem del_ent {n : List UInt8} : (DataW.map (fs.map ent)).del (.string n) = .map ((delF fs n).map ent) := by
 rw [DataW.del_eq, ChangeMaps.delKey, notKey_ent]
theorem Keep.mapTurned {b : Nat} (h : w.mapTurned w' b) : Keep (· = b) w w' := by
 have hg := h.grown
 exact ⟨hg.os, hg.tape, hg.output, hg.size, fun k hk hn => hg.block k hk fun e => hn (Option.some.inj e)⟩
theorem MapIs.store (h : MapIs w m fs) (hn : name.size ≤ maxLen) (hl : fs.length < maxLen) (hno : ∀ f ∈ fs, f.c.name ≠ name.data.toList) (x : DF) (hx : x.c.name = name.data.toList) :
  ∃ w', (Instr.mapUpdate TMAP (.map (some m)) (.string name) (.pointer (some ⟨x.blk, 0, none⟩))).run Tryz.prog w = .ok () w' ∧ MapIs w' m (insF x fs) ∧ Keep (· = m) w w' := by
 obtain ⟨w', hrun, h1, h2⟩ := World.ownsMap.store h mapLaw TM hl (WideMaps.keyOf_string_mk Tryz.underlying9 hn) (fileElem_mk x.blk)
 refine ⟨w', hrun, ?_, Keep.mapTurned h2⟩
 rw [put_ent hx hno] at h1
 have := ownsMap_tight h1
 rw [List.length_map] at this
 exact this
theorem MapIs.drop (h : MapIs w m fs) (hn : name.size ≤ maxLen) (ty : TypeId) :
  ∃ w', (Builtin.delete_ #[TMAP, TSTR] ty #[.map (some m), .string name]).run Tryz.prog w = .ok (.tuple #[]) w' ∧ MapIs w' m (delF fs name.data.toList) ∧ Keep (· = m) w w' := by
 obtain ⟨w', hrun, h1, h2⟩ := World.ownsMap.drop h mapLaw TM (WideMaps.keyOf_string_mk Tryz.underlying9 hn) ty
 refine ⟨w', hrun, ?_, Keep.mapTurned h2⟩
 rw [del_ent] at h1
 have := ownsMap_tight h1
 rw [List.length_map] at this
 exact this
theorem MapIs.made (w : World) : MapIs (w.alloc (.map #[] 0)) w.heap.size [] := World.ownsMap_made _ _ _ _
end
def FileAt (w : World) (S : BS) (b : Nat) (c : DC) : Prop := ∃ v, Blk w b TFIL #[v, .int .i64 (c.l : Int)] ∧ BytesS w S v c.b ∧ c.l ≤ c.b.length
theorem FileAt.keep {F : Nat → Prop} {w w' : World} {S : BS} {b : Nat} {c : DC} (h : FileAt w S b c) (hk : Keep F w w') (hb : ¬ F b) (hS : ∀ k, S k → ¬ F k) : FileAt w' S b c := by
 obtain ⟨v, h1, h2, h3⟩ := h
 exact ⟨v, h1.keep hk hb, h2.keep EU8.ok hk hS, h3⟩
theorem FileAt.more {w : World} {S S' : BS} {b : Nat} {c : DC} (h : FileAt w S b c) (hS : ∀ k, k < w.heap.size → S k → S' k) : FileAt w S' b c := by
 obtain ⟨v, h1, h2, h3⟩ := h
 exact ⟨v, h1, h2.more EU8.ok hS, h3⟩
theorem FileAt.lt {w : World} {S : BS} {b : Nat} {c : DC} (h : FileAt w S b c) : b < w.heap.size := by obtain ⟨v, h1, _⟩ := h; exact h1.lt
def usedC (cs : List DC) : Nat := (cs.map fun c => c.b.length).sum
structure DSt where
 room : Nat
 full : Bool
 left : Int
structure DOk (cs : List DC) (s : DSt) : Prop where
 room : s.room ≤ 1048576
 used : usedC cs ≤ s.room
 many : cs.length ≤ 64
 names : ∀ c ∈ cs, 0 < c.name.length ∧ c.name.length ≤ 30
 left : -1 ≤ s.left ∧ s.left ≤ 9223372036854775807
structure DiskAt (w : World) (B : BS) (d m : Nat) (fs : List DF) (s : DSt) : Prop where
 own : B d
 ownm : B m
 blk : Blk w d TDSK #[.map (some m), .int .i64 (s.room : Int), .bool s.full, .int .i64 s.left]
 map : MapIs w m fs
 files : ∀ f ∈ fs, B f.blk ∧ FileAt w (fun k => B k ∧ k ≠ d ∧ k ≠ m ∧ ∀ g ∈ fs, k ≠ g.blk) f.blk f.c
 apart : fs.Pairwise fun f g => f.blk ≠ g.blk
def DiskIs (w : World) (B : BS) (d : Nat) (cs : List DC) (s : DSt) : Prop := DOk cs s ∧ ∃ m fs, DiskAt w B d m fs s ∧ fs.map DF.c = cs
section
variable {w w' : World} {B B' : BS} {d m : Nat} {fs : List DF} {s : DSt}
theorem Blk.not_map {g : Nat} {t : TypeId} {cs : Array Value} (h : Blk w g t cs) (h' : MapIs w g fs) : False := by
 obtain ⟨es, clock, hb, _⟩ := h'
 unfold Blk at h
 rw [h] at hb
 cases hb
theorem DiskAt.ne (h : DiskAt w B d m fs s) : d ≠ m := fun e => by subst e; exact h.blk.not_map h.map
theorem DiskAt.ned (h : DiskAt w B d m fs s) {f : DF} (hf : f ∈ fs) : f.blk ≠ d ∧ f.blk ≠ m := by
 obtain ⟨_, v, hb, _⟩ := h.files f hf
 refine ⟨hb.ne_ h.blk (by decide), fun e => ?_⟩
 rw [e] at hb
 exact hb.not_map h.map
theorem DiskAt.keep {F : Nat → Prop} (h : DiskAt w B d m fs s) (hk : Keep F w w') (hF : ∀ k, B k → ¬ F k) : DiskAt w' B d m fs s :=
 ⟨h.own, h.ownm, h.blk.keep hk (hF _ h.own), h.map.keep hk (hF _ h.ownm), fun f hf => ⟨(h.files f hf).1, (h.files f hf).2.keep hk (hF _ (h.files f hf).1) fun k hk => hF k hk.1⟩, h.apart⟩
theorem DiskAt.more (h : DiskAt w B d m fs s) (hB : ∀ k, k < w.heap.size → B k → B' k) : DiskAt w B' d m fs s :=
 ⟨hB _ h.blk.lt h.own, hB _ h.map.lt h.ownm, h.blk, h.map, fun f hf => ⟨hB _ (h.files f hf).2.lt (h.files f hf).1, (h.files f hf).2.more fun k hk hs => ⟨hB k hk hs.1, hs.2⟩⟩, h.apart⟩
theorem DiskIs.keep {F : Nat → Prop} {cs : List DC} (h : DiskIs w B d cs s) (hk : Keep F w w') (hF : ∀ k, B k → ¬ F k) : DiskIs w' B d cs s := by
 obtain ⟨h0, m, fs, h1, h2⟩ := h
 exact ⟨h0, m, fs, h1.keep hk hF, h2⟩
theorem DiskIs.ext {cs : List DC} (h : DiskIs w B d cs s) (hk : Ext w w') : DiskIs w' B d cs s := h.keep hk fun _ _ x => x
theorem DiskIs.more {cs : List DC} (h : DiskIs w B d cs s) (hB : ∀ k, k < w.heap.size → B k → B' k) : DiskIs w B' d cs s := by
 obtain ⟨h0, m, fs, h1, h2⟩ := h
 exact ⟨h0, m, fs, h1.more hB, h2⟩
end
end Go.Proofs.YtihaliffcobacaaGreatDoor
namespace Go.Proofs.YtihaliffcobacaaGreatDoor
open Go.RowKit Go.Maps
theorem i64_load (d i : Nat) (x : Int) (w : World) (h : w.cell? ⟨d, i, none⟩ = some (.int .i64 x)) :
  Calls Tryz.prog 67 #[.pointer (some ⟨d, i, none⟩)] w fun e w' => e = .returned (.int .i64 x) ∧ w = w' := by
 have hl := run_call_load (P := Tryz.prog) Tryz.func88 (by kernel_rfl) (by kernel_rfl) (by kernel_rfl) .i64 (by kernel_rfl) h
 go_enter Tryz.func67, Tryz.ntmps67
 go_wp2
 go_ret
 exact ⟨rfl, rfl⟩
theorem i64_store (d i : Nat) (x y : Int) (w : World) (h : w.cell? ⟨d, i, none⟩ = some (.int .i64 x)) (hz : w.frozen? ⟨d, i, none⟩ = false) :
  Calls Tryz.prog 23 #[.pointer (some ⟨d, i, none⟩), .int .i64 y] w fun e w' => e = .returned (.tuple #[]) ∧ w' = w.setCell ⟨d, i, none⟩ (.int .i64 y) := by
 have hst := run_call_store (P := Tryz.prog) Tryz.func51 (by kernel_rfl) (by kernel_rfl) (by kernel_rfl) (by kernel_rfl) (k := .i64) (y := y) h hz
 go_enter Tryz.func23, Tryz.ntmps23
 go_wp2
 go_end0
 exact ⟨rfl, rfl⟩
theorem i64_add (d i : Nat) (x : Int) (w : World) (h : w.cell? ⟨d, i, none⟩ = some (.int .i64 x)) (hz : w.frozen? ⟨d, i, none⟩ = false) (h1 : 0 < x) (h2 : x ≤ 9223372036854775807) :
  Calls Tryz.prog 68 #[.pointer (some ⟨d, i, none⟩), .int .i64 (-1)] w fun e w' => e = .returned (.int .i64 (x - 1)) ∧ w' = w.setCell ⟨d, i, none⟩ (.int .i64 (x - 1)) := by
 have hs : IntKind.i64.wrap (x + -1) = x - 1 := by rw [IntKind.wrap_i64]; omega
 have hadd := run_call_add (P := Tryz.prog) Tryz.func89 (by kernel_rfl) (by kernel_rfl) (by kernel_rfl) .i64 (by kernel_rfl) (y := -1) (s := x - 1) h hz (by simp [go_sem]; exact hs)
 clear hs h2
 go_enter Tryz.func68, Tryz.ntmps68
 go_wp2
 go_ret
 exact ⟨rfl, rfl⟩
def leftC (x : Int) : Int := if 0 < x then x - 1 else x
def goesC (x : Int) : Bool := x != 0
theorem leftC_ok {x : Int} (h : -1 ≤ x ∧ x ≤ 9223372036854775807) : -1 ≤ leftC x ∧ leftC x ≤ 9223372036854775807 := by unfold leftC; split <;> omega
section
variable {w w' : World} {B : BS} {d m : Nat} {fs : List DF} {s : DSt}
theorem DiskAt.setLeft (h : DiskAt w B d m fs s) (x : Int) : DiskAt (w.setCell ⟨d, 3, none⟩ (.int .i64 x)) B d m fs { s with left := x } := by
 have hk : Keep (· = d) w (w.setCell ⟨d, 3, none⟩ (.int .i64 x)) := (Keep.refl _ _).set1 3 _
 refine ⟨h.own, h.ownm, h.blk.set_ 3 _, h.map.keep hk (fun e => h.ne e.symm), fun f hf => ⟨(h.files f hf).1, (h.files f hf).2.keep hk (h.ned hf).1 fun k hk e => hk.2.1 e⟩, h.apart⟩
end
def CallIs (w : World) (d : Nat) (x : Int) (e : Ending) (w' : World) : Prop := e = .returned (.bool (goesC x)) ∧ w' = if 0 < x then w.setCell ⟨d, 3, none⟩ (.int .i64 (leftC x)) else w
theorem disk_call (w : World) (d : Nat) (x : Int) (h : w.cell? ⟨d, 3, none⟩ = some (.int .i64 x)) (hz : w.frozen? ⟨d, 3, none⟩ = false) (hx : -1 ≤ x ∧ x ≤ 9223372036854775807) :
  Calls Tryz.prog 34 #[.pointer (some ⟨d, 0, none⟩)] w (CallIs w d x) := by
 obtain ⟨hx1, hx2⟩ := hx
 have HX2 := hid hx2
 clear hx2
 by_cases h0 : x = 0
 ·subst h0
  go_enter Tryz.func34, Tryz.ntmps34
  go_wp2_with fail
  refine (i64_load d 3 0 w h).mono ?_
  rintro e w1 ⟨rfl, rfl⟩
  go_wp2
  go_ret
  exact ⟨rfl, rfl⟩
 ·by_cases h1 : x = -1
  ·subst h1
   go_enter Tryz.func34, Tryz.ntmps34
   go_wp2_with fail
   refine (i64_load d 3 (-1) w h).mono ?_
   rintro e w1 ⟨rfl, rfl⟩
   go_wp2
   go_ret
   exact ⟨rfl, rfl⟩
  ·have hp : 0 < x := by omega
   have h0X : (x == 0) = false := by simp; omega
   have h1X : (x == -1) = false := by simp; omega
   go_enter Tryz.func34, Tryz.ntmps34
   go_wp2_with fail
   refine (i64_load d 3 x w h).mono ?_
   rintro e w1 ⟨rfl, rfl⟩
   go_wp2_with fail
   refine (i64_add d 3 x w h hz hp HX2.out).mono ?_
   rintro e w1 ⟨rfl, rfl⟩
   go_wp2
   go_ret
   refine ⟨?_, ?_⟩
   ·unfold goesC; simp; omega
   ·rw [if_pos hp, leftC, if_pos hp]
def NewIs (w : World) (room : Int) (e : Ending) (w' : World) : Prop :=
 if 0 ≤ room ∧ room ≤ 1048576 then ∃ d, e = .returned (.pointer (some ⟨d, 0, none⟩)) ∧ w.heap.size ≤ d ∧ DiskIs w' (fun k => w.heap.size ≤ k ∧ k < w'.heap.size) d [] ⟨room.toNat, false, -1⟩ ∧ Ext w w'
 else e = .returned (.pointer none) ∧ Ext w w'
theorem disk_new (w : World) (room : Int) : Calls Tryz.prog 8 #[.int .i64 room] w (NewIs w room) := by
 by_cases h1 : room < 0
 ·have h1X : decide (room < 0) = true := by simpa using h1
  go_enter Tryz.func8, Tryz.ntmps8
  go_wp2
  go_ret
  unfold NewIs
  rw [if_neg (by omega)]
  exact ⟨rfl, Keep.refl _ _⟩
 ·by_cases h2 : 1048576 < room
  ·have h1X : decide (room < 0) = false := by simpa using h1
   have h2X : decide (1048576 < room) = true := by simpa using h2
   clear h1 h2
   go_enter Tryz.func8, Tryz.ntmps8
   go_wp2
   go_ret
   unfold NewIs
   simp at h2X
   rw [if_neg (by omega)]
   exact ⟨rfl, Keep.refl _ _⟩
  ·have h1X : decide (room < 0) = false := by simpa using h1
   have h2X : decide (1048576 < room) = false := by simpa using h2
   have HB := hid (show 0 ≤ room ∧ room ≤ 1048576 by omega)
   clear h1 h2
   obtain ⟨W0, hW0⟩ : ∃ W0, (w.alloc (.map #[] 0)).alloc (.cells #[.map (some w.heap.size), .int .i64 room, .bool false, .int .i64 0] TDSK) = W0 := ⟨_, rfl⟩
   have hb : Blk W0 (w.heap.size + 1) TDSK #[.map (some w.heap.size), .int .i64 room, .bool false, .int .i64 0] := by
    rw [← hW0]
    have := Blk.new (w.alloc (.map #[] 0)) TDSK #[.map (some w.heap.size), .int .i64 room, .bool false, .int .i64 0]
    rwa [World.size_alloc] at this
   have hm : MapIs W0 w.heap.size [] := by rw [← hW0]; exact (MapIs.made w).keep ((Keep.refl (fun _ => False) _).alloc _) id
   have hE : Ext w W0 := by rw [← hW0]; exact ((Keep.refl _ _).alloc _).alloc _
   have hz : W0.heap.size = w.heap.size + 1 + 1 := by rw [← hW0]; simp
   have c3 := hb.cell 3
   have f3 := hb.frozen 3
   simp only [List.getElem?_toArray, List.getElem?_cons_succ, List.getElem?_cons_zero] at c3
   have HD := hid (show DiskAt W0 (fun k => w.heap.size ≤ k ∧ k < W0.heap.size) (w.heap.size + 1) w.heap.size [] ⟨room.toNat, false, 0⟩ from
    ⟨by omega, by omega, by rw [show ((room.toNat : Nat) : Int) = room by have := HB.out; omega]; exact hb, hm, (fun f hf => by cases hf), List.Pairwise.nil⟩)
   have HE := hid hE
   have hmm := @run_makeMap Tryz.prog
   clear hb hm hE hz
   go_enter Tryz.func8, Tryz.ntmps8
   go_wp2_with fail
   clear hW0
   refine (i64_store _ 3 0 (-1) W0 c3 f3).mono ?_
   rintro e w1 ⟨rfl, rfl⟩
   clear c3 f3
   go_wp2
   go_ret
   unfold NewIs
   rw [if_pos HB.out]
   have hd := HD.out.setLeft (-1)
   refine ⟨_, rfl, by omega, ⟨⟨?_, Nat.zero_le _, Nat.zero_le _, (fun c hc => by cases hc), ⟨show (-1 : Int) ≤ -1 by decide, show (-1 : Int) ≤ 9223372036854775807 by decide⟩⟩, _, _, hd.more fun k hk h => ⟨h.1, ?_⟩, rfl⟩, HE.out.trans ((Keep.refl (· = w.heap.size + 1) W0).set1 3 _) fun k hk e => by omega⟩
   ·have := HB.out; simp; omega
   ·have := h.2; simpa using this
end Go.Proofs.YtihaliffcobacaaGreatDoor
namespace Go.Proofs.YtihaliffcobacaaGreatDoor
open Go.RowKit Go.Maps
theorem Keep.grownBy {w w' : World} {r : Nat} (h : w.grownBy w' (some r)) : Keep (· = r) w w' := (Keep.refl (· = r) w).grown h fun k e _ => (Option.some.inj e).symm
theorem Keep.grownNone {w w' : World} (h : w.grownBy w' none) : Ext w w' := (Keep.refl (fun _ => False) w).grown h fun k e _ => by cases e
abbrev RangeIs (w : World) (m r : Nat) (fs : List DF) (left : Lit → Bool) (cnt : Nat) : Prop := w.ranges (H := Unit) Tryz.prog TSTR fileElem m r fs.length (.map (fs.map ent)) left cnt
theorem RangeIs.keep {F : Nat → Prop} {w w' : World} {m r : Nat} {fs : List DF} {left : Lit → Bool} {cnt : Nat} (h : RangeIs w m r fs left cnt) (hk : Keep F w w') (hm : ¬ F m) (hr : ¬ F r) : RangeIs w' m r fs left cnt := by
 have h1 := World.ownsMap.lt h.owns
 have h2 := World.ranges.lt h
 obtain ⟨es, clock, since, seen, c0, hb, Ft, hs, hD, hr', rest⟩ := h
 exact ⟨es, clock, since, seen, c0, (hk.block m h1 hm).trans hb, Ft, hs, hD, (hk.block r h2 hr).trans hr', rest⟩
section
variable {w : World} {ops : Array Oper} {rest : List Oper} {o : Oper} {a : Act} {Q : Exit → Act → World → Prop}
theorem wpList_range_files (hg : o.guard = none) (x : Operand) (hop : o.op = Op.range TMAP x) (m : Nat) (fs : List DF) (hm : a.eval x = .map (some m)) (hown : MapIs w m fs)
  (hK : ∀ w', RangeIs w' m w.heap.size fs (Maps.has (.map (fs.map ent))) (Maps.size (.map (fs.map ent))) → Ext w w' → w'.heap.size = w.heap.size + 1 → wpList Tryz.prog ops Q rest (a.put o.dst (.pointer (some ⟨w.heap.size, 0, none⟩))) w') :
  wpList Tryz.prog ops Q (o :: rest) a w :=
 wpList_range_own w hg x TMAP hop TSTR TPFI mapLaw TM fileElem m fs.length _ hm hown fun w' h1 h2 h3 => hK w' h1 (Keep.grownNone h2) h3
theorem has_ent {fs : List DF} {f : DF} (hf : f ∈ fs) : Maps.has (.map (fs.map ent)) (.string f.c.name) = true :=
 List.any_eq_true.2 ⟨ent f, List.mem_map_of_mem hf, by show (f.c.name == f.c.name) = true; simp⟩
theorem wpList_next_files (hg : o.guard = none) (it : Operand) (hop : o.op = Op.next it false) (m r : Nat) (fs : List DF) (left : Lit → Bool) (cnt : Nat)
  (hit : a.eval it = .pointer (some ⟨r, 0, none⟩)) (h : RangeIs w m r fs left cnt)
  (hDone : (∀ kl, left kl = false) → wpList Tryz.prog ops Q rest (a.put o.dst (.tuple #[.bool false])) w)
  (hMore : ∀ (f : DF), f ∈ fs → left (.string f.c.name) = true → ∀ (w' : World) (cnt' : Nat), RangeIs w' m r fs (fun z => left z && !z.sameKey (.string f.c.name)) cnt' → cnt' < cnt → Keep (· = r) w w' →
   (Instr.entry (.pointer (some ⟨r, 0, none⟩))).run Tryz.prog w' = .ok (.tuple #[.string ⟨f.c.name.toArray⟩, .pointer (some ⟨f.blk, 0, none⟩)]) w' →
   wpList Tryz.prog ops Q rest (a.put o.dst (.tuple #[.bool true, .string ⟨f.c.name.toArray⟩, .pointer (some ⟨f.blk, 0, none⟩)])) w') :
  wpList Tryz.prog ops Q (o :: rest) a w := by
 refine wpList_next_ranges w hg it hop TSTR mapLaw fileElem Go.Proofs.encStr (fun p : Option Nat => Value.pointer (p.map fun b => ⟨b, 0, none⟩))
  (fun key kl hk => by obtain ⟨x, hx, _⟩ := Maps.keyOf_str Tryz.underlying9 hk; exact ⟨x, hx⟩) (fun v y hv => by obtain ⟨p, e, _⟩ := fileElem_inv hv; exact ⟨p, e⟩)
  m r fs.length _ left cnt hit h (fun _ => hDone) ?_
 intro x c kl y w' cnt' hkey hlk hv hat hrg hlt hgr hsz hen
 obtain ⟨x', ex, rfl, _⟩ := Maps.keyOf_str Tryz.underlying9 hkey
 have ex : x = x' := by
  have h1 : (Go.Proofs.encStr x) = Value.string ⟨x'.toArray⟩ := ex
  simp [Go.Proofs.encStr] at h1
  exact h1
 subst ex
 have h1 := hat (.lit (.bool true))
 have h2 := hat (.lit (.bool false))
 rw [atKey_ent] at h1 h2
 cases hf : findF fs x with
 | none =>
  rw [hf] at h1 h2
  rw [← h1] at h2
  simp at h2
 | some f =>
  rw [hf] at h1
  obtain ⟨hmem, hname⟩ := findF_some hf
  subst hname
  have hc : c = some f.blk := by
   cases c with
   | none =>
    have : y = (.lit (.int .i64 (-1)), []) := (Option.some.inj hv).symm
    rw [this] at h1
    simp at h1
   | some b =>
    have : y = (.lit (.int .i64 (b : Int)), []) := (Option.some.inj hv).symm
    rw [this] at h1
    simp at h1
    have h1 : f.blk = b := by omega
    exact congrArg some h1.symm
  subst hc
  exact hMore f hmem hlk w' cnt' hrg hlt (Keep.grownBy hgr) hen
end
def sumLeft (g : DF → Nat) (fs : List DF) (left : Lit → Bool) : Nat := ((fs.filter fun f => left (.string f.c.name)).map g).sum
theorem sumLeft_all {g : DF → Nat} {fs : List DF} {left : Lit → Bool} (h : ∀ f ∈ fs, left (.string f.c.name) = true) : sumLeft g fs left = (fs.map g).sum := by
 unfold sumLeft
 rw [List.filter_eq_self.2 h]
theorem sumLeft_none {g : DF → Nat} {fs : List DF} {left : Lit → Bool} (h : ∀ kl, left kl = false) : sumLeft g fs left = 0 := by
 unfold sumLeft
 rw [List.filter_eq_nil_iff.2 fun f _ => by simp [h]]
 rfl
theorem sumLeft_congr {g : DF → Nat} {fs : List DF} {l1 l2 : Lit → Bool} (h : ∀ f ∈ fs, l1 (.string f.c.name) = l2 (.string f.c.name)) : sumLeft g fs l1 = sumLeft g fs l2 := by
 unfold sumLeft
 rw [List.filter_congr h]
theorem sumLeft_step {g : DF → Nat} {left : Lit → Bool} : ∀ {fs : List DF}, fs.Pairwise (fun f g => f.c.name ≠ g.c.name) → ∀ {f : DF}, f ∈ fs → left (.string f.c.name) = true →
  sumLeft g fs left = g f + sumLeft g fs (fun z => left z && !z.sameKey (.string f.c.name))
 | [], _, _, hf, _ => by cases hf
 | x :: r, hp, f, hf, hl => by
  obtain ⟨h1, h2⟩ := List.pairwise_cons.1 hp
  by_cases hx : x = f
  ·subst hx
   have e1 : sumLeft g (x :: r) left = g x + sumLeft g r left := by unfold sumLeft; rw [List.filter_cons, if_pos hl]; rfl
   have e2 : sumLeft g (x :: r) (fun z => left z && !z.sameKey (.string x.c.name)) = sumLeft g r (fun z => left z && !z.sameKey (.string x.c.name)) := by
    unfold sumLeft
    rw [List.filter_cons, if_neg]
    show ¬ ((left _ && !(x.c.name == x.c.name)) = true)
    simp
   rw [e1, e2]
   congr 1
   refine sumLeft_congr fun y hy => ?_
   show _ = (left _ && !(y.c.name == x.c.name))
   have := h1 y hy
   have : (y.c.name == x.c.name) = false := by simpa using fun e => this e.symm
   rw [this]; simp
  ·have hf' : f ∈ r := by
    rcases List.mem_cons.1 hf with e | h
    ·exact absurd e.symm hx
    ·exact h
   have ih := sumLeft_step (g := g) h2 hf' hl
   have hne : (x.c.name == f.c.name) = false := by simpa using h1 f hf'
   have e : (left (.string x.c.name) && !(Lit.string x.c.name).sameKey (.string f.c.name)) = left (.string x.c.name) := by
    show (left _ && !(x.c.name == f.c.name)) = _
    rw [hne]; simp
   unfold sumLeft at ih ⊢
   rw [List.filter_cons, List.filter_cons]
   dsimp only at ih ⊢
   simp only [e]
   split
   ·simp only [List.map_cons, List.sum_cons]; omega
   ·exact ih
end Go.Proofs.YtihaliffcobacaaGreatDoor
