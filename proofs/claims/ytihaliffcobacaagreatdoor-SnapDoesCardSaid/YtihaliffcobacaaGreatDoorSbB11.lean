/- EncL, EncG, GrowIn, Within, ValWeight: laid together. -/
import Derived.Test.YtihaliffcobacaaGreatDoorSbB8
import Derived.Test.YtihaliffcobacaaGreatDoorSbB10
import Derived.Test.YtihaliffcobacaaGreatDoorSbB4
import Derived.OrdersIn
import Derived.RangeFuncNested
import Derived.RangeFuncBound
import Derived.RangeFuncCalls
import Derived.RangeFuncLeaves
import Derived.RangeFuncFrom
import Derived.Test.YtihaliffcobacaaGreatDoorSbB6
import Derived.Shelf.Abstract
import Derived.Shelf.RegionOpen
import Derived.WalkKit
import Derived.OwnWalkIn
import Derived.TacticsInMore
import Derived.LoopNIn
import Derived.LoopIn
set_option linter.unusedSimpArgs false
set_option linter.unusedVariables false
set_option maxHeartbeats 25600000
set_option maxRecDepth 20000
namespace Go.Proofs.YtihaliffcobacaaGreatDoor
open Go.RowKit
def lightB (v : V) : Bool := v.snd && (decide (v.deep ≤ 16) && decide (v.weight ≤ 20000))
mutual
theorem encV_le13 : ∀ v : V, (encV v).length + 4 ≤ 13 * v.weight
 | .mk k n s l o => by
  have h1 := encVs_le13 l
  have h2 := encFs_le13 o
  rw [encV, V.weight]
  split
  ·simp [beN_len]; omega
  ·split
   ·simp [encT_len]; omega
   ·split
    ·simp [beN_len]; omega
    ·split
     ·simp [beN_len]; omega
     ·simp; omega
theorem encVs_le13 : ∀ l : List V, (encVs l).length ≤ 13 * V.weights l
 | [] => by simp [encVs, V.weights]
 | v :: l => by
  have h1 := encV_le13 v
  have h2 := encVs_le13 l
  rw [encVs, V.weights, List.length_append]; omega
theorem encFs_le13 : ∀ l : List F, (encFs l).length ≤ 13 * F.weights l
 | [] => by simp [encFs, F.weights]
 | .mk k v :: l => by
  have h1 := encV_le13 v
  have h2 := encFs_le13 l
  rw [encFs, encF, F.weights, F.weight, List.length_append, List.length_append, encT_len]; omega
end
theorem light_weight {v : V} (h : lightB v = true) : v.weight ≤ 20000 := by
 unfold lightB at h
 simp at h
 exact h.2.2
def valC (v : V) : Int := if lightB v then (if (encV v).length > 60000 then 3 else 0) else 1
def valB (v : V) : List UInt8 := if valC v = 0 then encV v else []
theorem ba_empty {s : ByteArray} (h : s.toList.isEmpty = true) : s = ⟨#[]⟩ := by
 rw [ByteArray.toList_eq] at h
 obtain ⟨a⟩ := s
 congr 1
 have h : a.toList = [] := by simpa using h
 exact Array.eq_empty_of_size_eq_zero (by rw [← Array.length_toList, h]; rfl)
theorem plainB_mk (k : UInt8) (n : Int) (s : ByteArray) (l : List V) (o : List F) : plainB (.mk k n s l o) =
 (if k = 0 then n == 0 && s.toList.isEmpty && l.isEmpty && o.isEmpty else
 if k = 1 then (n == 0 || n == 1) && s.toList.isEmpty && l.isEmpty && o.isEmpty else
 if k = 2 then s.toList.isEmpty && l.isEmpty && o.isEmpty else
 if k = 3 then n == 0 && Lib.validD s.data.toList && l.isEmpty && o.isEmpty else
 if k = 4 then n == 0 && s.toList.isEmpty && o.isEmpty else
 if k = 5 then n == 0 && s.toList.isEmpty && l.isEmpty else false) := rfl
mutual
theorem snd_can : ∀ v : V, v.snd = true → NAll N64 v → v.weight ≤ 4000000000 → Can v
 | .mk k n s l o, h, hn, hw => by
  rw [V.snd] at h
  simp only [Bool.and_eq_true] at h
  obtain ⟨⟨⟨h1, h2⟩, h3⟩, h4⟩ := h
  rw [NAll] at hn
  obtain ⟨n1, n2, n3⟩ := hn
  rw [V.weight] at hw
  have hl := snds_len l
  have ho := fsnds_len o
  have g3 := snds_can l h3 n2 (by omega)
  have g4 := fsnds_can o h4 n3 (by omega)
  rw [plainB_mk] at h1
  rw [Can]
  by_cases k0 : k = 0
  ·subst k0
   simp at h1
   obtain ⟨⟨⟨a, b⟩, c⟩, d⟩ := h1
   refine ⟨fun h => absurd h (by decide), fun _ => a, fun h => absurd h (by decide), fun _ => ba_empty (by simpa using b), fun h => absurd h (by decide), fun _ => c, fun h => absurd h (by decide), fun _ => d, g3, g4⟩
  rw [if_neg k0] at h1
  by_cases k1 : k = 1
  ·subst k1
   simp at h1
   obtain ⟨⟨⟨a, b⟩, c⟩, d⟩ := h1
   refine ⟨fun _ => n1, fun h => absurd (Or.inl rfl) h, fun h => absurd h (by decide), fun _ => ba_empty (by simpa using b), fun h => absurd h (by decide), fun _ => c, fun h => absurd h (by decide), fun _ => d, g3, g4⟩
  rw [if_neg k1] at h1
  by_cases k2 : k = 2
  ·subst k2
   simp at h1
   obtain ⟨⟨b, c⟩, d⟩ := h1
   refine ⟨fun _ => n1, fun h => absurd (Or.inr rfl) h, fun h => absurd h (by decide), fun _ => ba_empty (by simpa using b), fun h => absurd h (by decide), fun _ => c, fun h => absurd h (by decide), fun _ => d, g3, g4⟩
  rw [if_neg k2] at h1
  by_cases k3 : k = 3
  ·subst k3
   simp at h1
   obtain ⟨⟨⟨a, b⟩, c⟩, d⟩ := h1
   refine ⟨fun h => absurd h (by decide), fun _ => a, fun _ => by omega, fun h => absurd rfl h, fun h => absurd h (by decide), fun _ => c, fun h => absurd h (by decide), fun _ => d, g3, g4⟩
  rw [if_neg k3] at h1
  by_cases k4 : k = 4
  ·subst k4
   simp at h1
   obtain ⟨⟨a, b⟩, d⟩ := h1
   refine ⟨fun h => absurd h (by decide), fun _ => a, fun h => absurd h (by decide), fun _ => ba_empty (by simpa using b), fun _ => by omega, fun h => absurd rfl h, fun h => absurd h (by decide), fun _ => d, g3, g4⟩
  rw [if_neg k4] at h1
  by_cases k5 : k = 5
  ·subst k5
   simp at h1
   obtain ⟨⟨a, b⟩, c⟩ := h1
   refine ⟨fun h => absurd h (by decide), fun _ => a, fun h => absurd h (by decide), fun _ => ba_empty (by simpa using b), fun h => absurd h (by decide), fun _ => c, fun _ => by omega, fun h => absurd rfl h, g3, g4⟩
  rw [if_neg k5] at h1
  cases h1
theorem snds_can : ∀ l : List V, V.snds l = true → NAlls N64 l → V.weights l ≤ 4000000000 → Cans l
 | [], _, _, _ => by rw [Cans]; trivial
 | v :: l, h, hn, hw => by
  rw [V.snds, Bool.and_eq_true] at h
  rw [NAlls] at hn
  rw [V.weights] at hw
  rw [Cans]; exact ⟨snd_can v h.1 hn.1 (by omega), snds_can l h.2 hn.2 (by omega)⟩
theorem fsnds_can : ∀ l : List F, F.snds l = true → NFAlls N64 l → F.weights l ≤ 4000000000 → CanFs l
 | [], _, _, _ => by rw [CanFs]; trivial
 | .mk k v :: l, h, hn, hw => by
  rw [F.snds, F.snd, Bool.and_eq_true, Bool.and_eq_true] at h
  rw [NFAlls] at hn
  rw [F.weights, F.weight] at hw
  rw [CanFs]; exact ⟨by omega, snd_can v h.1.2 hn.1 (by omega), fsnds_can l h.2 hn.2 (by omega)⟩
theorem snds_len : ∀ l : List V, l.length ≤ V.weights l
 | [] => by simp
 | v :: l => by rw [V.weights, List.length_cons]; have := snds_len l; have h := V.weight_eq v; omega
theorem fsnds_len : ∀ l : List F, l.length ≤ F.weights l
 | [] => by simp
 | .mk k v :: l => by rw [F.weights, F.weight, List.length_cons]; have := fsnds_len l; have h := V.weight_eq v; omega
end
mutual
theorem enc_short {R : Nat} : ∀ v : V, VStr R v → (encV v).length + (4 + R) ≤ v.size * (13 + 2 * R)
 | .mk k n s l o, h => by
  rw [VStr] at h
  have h1 := encs_short l h.2.1
  have h2 := encfs_short o h.2.2
  have h0 := h.1
  rw [encV, V.size, Nat.add_mul, Nat.add_mul]
  split
  ·simp [beN_len]; omega
  ·split
   ·simp [encT_len]; omega
   ·split
    ·simp [beN_len]; omega
    ·split
     ·simp [beN_len]; omega
     ·simp; omega
theorem encs_short {R : Nat} : ∀ l : List V, VStrs R l → (encVs l).length ≤ V.sizes l * (13 + 2 * R)
 | [], _ => by simp [encVs]
 | v :: l, h => by
  rw [VStrs] at h
  have h1 := enc_short v h.1
  have h2 := encs_short l h.2
  rw [encVs, V.sizes, List.length_append, Nat.add_mul]; omega
theorem encfs_short {R : Nat} : ∀ l : List F, FStrs R l → (encFs l).length ≤ F.sizes l * (13 + 2 * R)
 | [], _ => by simp [encFs]
 | .mk k v :: l, h => by
  rw [FStrs, FStr] at h
  have h1 := enc_short v h.1.2
  have h2 := encfs_short l h.2
  have h0 := h.1.1
  rw [encFs, encF, F.sizes, F.size, List.length_append, List.length_append, encT_len, Nat.add_mul]; omega
end
abbrev InR (l : Nat) : Fence := Fence.wide.inRound l
section
variable {P : Program} {l n : Nat}
theorem callsIn_round {f : FuncId} {args : Array Value} {w : World} {R : Ending → World → Prop} (h : Calls P f args w R) : CallsIn (InR l) n P f args w R := CallsIn.inRound l (callsIn_wide.2 h)
theorem opIn_of_op {o : Oper} (hd : ∀ c, o.op ≠ .defer c) {a : Act} {w : World} {K : Act → World → Prop} {Q : Exit → Act → World → Prop} (h : o.wp P a w K Q) : o.wpIn (InR l) n P a w K Q := by
 refine ⟨fun _ _ => trivial, ?_⟩
 unfold Oper.wp at h
 rw [Oper.semAt_eq _ _ _ hd]
 generalize (execOp a.eval o).run P w = r at *
 cases r with
 | ok x w' =>
  cases x <;> simp only [Oper.upon] at h <;> simp only [Oper.uponIn]
  case value v => exact h
  case skip => exact h
  case defer d => exact h
  case enter f args => exact ⟨(fun e => by cases e), (callsIn_round h).mono fun e w'' he => by cases e <;> exact he⟩
  case row r args => exact ⟨(fun e => by cases e), fun c cs _ => (let ⟨v, w', r, s⟩ := h c cs; ⟨v, w', r, stepsIn_wide.2 s⟩)⟩
 | halt x w' => cases x <;> simp only [Oper.upon] at h <;> simp only [Oper.uponIn] <;> exact h
def noDefer (ops : Array Oper) : Bool := ops.all fun o => match o.op with | .defer _ => false | _ => true
theorem noDefer_spec {ops : Array Oper} (h : noDefer ops = true) {i : Nat} {o : Oper} (ho : ops[i]? = some o) : ∀ c, o.op ≠ .defer c := by
 intro c e
 have := Array.all_eq_true.1 h i (Array.getElem?_eq_some_iff.1 ho).1
 rw [(Array.getElem?_eq_some_iff.1 ho).2, e] at this
 cases this
theorem anyIn_of_any {ops : Array Oper} (hd : noDefer ops = true) {Q : Exit → Act → World → Prop} (hO : ¬ LetsOut Q) {md : Region.Mode} : ∀ (fuel : Nat) (listed : Array Bool) (a : Act) (w : World), wpAny P md ops Q fuel listed a w → wpAnyIn (InR l) n P md ops Q fuel listed a w
 | 0, _, _, _, h => h
 | fuel + 1, listed, a, w, h => ⟨h.1, fun i hi => by
  have h := h.2 i hi
  unfold wpOp at h
  unfold wpOpIn
  split at h
  ·rename_i ho; simp only [ho]; exact anyIn_of_any hd hO fuel _ _ _ h
  ·rename_i o ho
   simp only [ho]
   split at h
   ·rename_i hw
    simp only [hw, if_true]
    rcases h with h | h
    ·exact opIn_of_op (noDefer_spec hd ho) (Oper.wp_mono (fun a w h => anyIn_of_any hd hO fuel _ a w h) h)
    ·exact absurd h.2 hO
   ·rename_i hw
    simp only [hw]
    exact ⟨fun _ _ => trivial, anyIn_of_any hd hO fuel _ _ _ h⟩⟩
theorem noPanic_out {Q : Exit → Act → World → Prop} (h : ¬ LetsOut Q) : ¬ LetsOut (NoPanic Q) := fun ⟨a, w, hq⟩ => h ⟨a, w, hq⟩
theorem regionIn {id : Nat} {ops : Array Oper} {Q : Exit → Act → World → Prop} {a : Act} {w : World} (hm : P.follows .mixedOrders = true) (hd : noDefer ops = true) (hO : ¬ LetsOut Q)
  (h : wpAny P .any ops (NoPanic Q) ops.size (Array.replicate ops.size false) a w.drew) : (Code.region id ops true).wpIn (InR l) n P Q a w :=
 wpIn_mono (wpIn_region_any hm (anyIn_of_any hd (noPanic_out hO) _ _ _ _ h)) NoPanic.imp
theorem wpIn_region_parts (p0 p1 p2 : List Nat) (S : Spec) (C : World → Prop) {id : Nat} {Q : Exit → Act → World → Prop} {a : Act} {w : World} {l' : List Oper} (hS : StableS S) (hC : StableC C) (hm : P.follows .mixedOrders = true)
  (hB : partB l' p0 p1 p2 = true) (hd : noDefer l'.toArray = true) (hO : ¬ LetsOut Q) (hw : C w.drew)
  (h : wpPure P l'.toArray (wpGrowP P l'.toArray C S (wpList P l'.toArray (NoPanic Q) (operOf l' p2)) p1 []) p0 a) : (Code.region id l'.toArray true).wpIn (InR l) n P Q a w :=
 regionIn hm hd hO (any_parts p0 p1 p2 S C hS hC hB hw h)
end
end Go.Proofs.YtihaliffcobacaaGreatDoor
namespace Go.Proofs.YtihaliffcobacaaGreatDoor
open Go.RowKit Go.Shelf
attribute [local go_sem] Oper.semAt_some
structure Kid (w0 : World) (S : BS) (G : F → Prop) where
 key : ByteArray
 v : V
 A1 : Option Addr
 c1 : Nat
 A2 : Option Addr
 c2 : Nat
 at_ : VAt w0 S (.agg #[U8 v.kind, .int .i64 v.n, .string v.s, .slice A1 v.l.length c1, .slice A2 v.o.length c2]) v
 ok : G (.mk key v)
section
variable {w0 : World} {S : BS} {G : F → Prop}
def Kid.enc (x : Kid w0 S G) : Array Value := #[.string x.key, .agg #[U8 x.v.kind, .int .i64 x.v.n, .string x.v.s, .slice x.A1 x.v.l.length x.c1, .slice x.A2 x.v.o.length x.c2]]
def Kid.kv (x : Kid w0 S G) : F := .mk x.key x.v
end
def kidsL (l : List V) : List F := l.map fun y => .mk ⟨#[]⟩ y
def kids (x : V) : List F := kidsL x.l ++ x.o
def KpW (nb B : Nat) (W W' : World) : Prop := Keep (fun k => k = nb ∨ B ≤ k) W W'
theorem kp_t {nb B : Nat} {X Y Z : World} (h : KpW nb B X Y) (k : KpW nb B Y Z) : KpW nb B X Z := Keep.trans h k fun _ _ x => x
theorem kp_b {nb B : Nat} (W : World) (l : Nat) (o o' : Obj) (hl : B ≤ l) (_ : W.heap[l]? = some o) (_ : o.isCells = false) (_ : o.isWalk = false) : KpW nb B W (W.putObj l o') :=
 Keep.grown (Keep.refl _ _) (grownBy_putObj' W l o') fun k e _ => .inr (by cases e; exact hl)
theorem ext_of_below {w w' : World} (h : Below w.heap.size w w') : Ext w w' := Keep.of_below h fun k h1 h2 => absurd h1 (Nat.not_lt.2 h2)
set_option maxRecDepth 100000 in
theorem within_stops (m vb nb : Nat) (w : World) (S : BS) (x : V) (lv ov : Value) (hm : 1 ≤ m) (hvb : Blk w vb TVAL #[U8 x.kind, .int .i64 x.n, .string x.s, lv, ov]) (hl : Sl EVal w S lv x.l) (ho : Sl EField w S ov x.o)
  (G : F → Prop) (hG : ∀ f ∈ kids x, G f) (hS : ∀ k, S k → k ≠ nb) (hne : vb ≠ nb) :
  SeqStopsK Fence.wide m Tryz.prog 145 #[.pointer (some ⟨vb, 0, none⟩)] (Kid.enc (w0 := w) (S := S) (G := G)) (KpW nb w.heap.size) (fun xs => xs.map Kid.kv = kids x) (fun pre => pre.map Kid.kv <+: kids x) (kids x).length w := by
 intro l J Jx W hW hJ hJx hY h0
 have hE := ext_of_below hW
 have hlt := hvb.lt
 obtain ⟨A, c, rfl, hlc, hcm⟩ := hl.shape
 obtain ⟨A', c', rfl, hlc', hcm'⟩ := ho.shape
 unfold maxLen at hcm hcm'
 have HL := hid hl
 have HO := hid ho
 have HB := hid hvb
 have HJ := hid hJ
 have HY := hid hY
 have HS := hid hS
 have HG := hid hG
 have hb := hvb.keep hE id
 have q3 : W.cell? ⟨vb, 3, none⟩ = some (.slice A x.l.length c) := hb.cell 3
 have HE := hid hE
 have hkl : (kids x).length = x.l.length + x.o.length := by simp [kids, kidsL]
 clear hl ho hvb hJ hY hb hE hW hS hG
 refine callsIn_of_wp Tryz.func145 rfl trivial ?_ rfl
 simp only [Tryz.ntmps145, List.size_toArray, List.length_cons, List.length_nil, Nat.reduceAdd, Nat.reduceSub, Array.replicate_succ, Array.replicate_zero, List.push_toArray, List.append_toArray, List.nil_append, List.cons_append]
 gi_wp2
 gi_loopw [10] (fun i wr => ∃ pre : List (Kid w S G), pre.length ≤ x.l.length ∧ i = .int .i64 pre.length ∧ pre.map Kid.kv = kidsL (x.l.take pre.length) ∧ J pre wr ∧ KpW nb w.heap.size W wr) (fun i wr => x.l.length - (intOf i).toNat)
 case atStart => exact ⟨[], by simp, rfl, by simp [kidsL], h0, Keep.refl _ _⟩
 case round =>
  obtain ⟨pre, hj, rfl, hpre, hJs, hk⟩ := hrel
  have hK : Keep (fun k => k = nb ∨ w.heap.size ≤ k) w wr := (HE.out.mono fun _ _ h => h.elim).trans hk fun _ _ h => h
  by_cases hlt2 : pre.length < x.l.length
  ·have hpre2 : kidsL (x.l.take (pre.length + 1)) = kidsL (x.l.take pre.length) ++ [F.mk ⟨#[]⟩ x.l[pre.length]] := by
    unfold kidsL; rw [take_succ_get _ _ hlt2, List.map_append]; rfl
   have hpx : kidsL (x.l.take (pre.length + 1)) <+: kids x := by
    refine ⟨kidsL (x.l.drop (pre.length + 1)) ++ x.o, ?_⟩
    rw [kids, ← List.append_assoc, kidsL, kidsL, kidsL, ← List.map_append, List.take_append_drop]
   obtain ⟨b1, o1, c0, rfl, hSb, hbl, hrd, hcell⟩ := HL.out.at_ EVal.ok hlt2
   obtain ⟨B1, n1, z1, B2, n2, z2, rfl, rfl, rfl, hva⟩ := EVal_cells hrd
   have hnb : ¬ (b1 = nb ∨ w.heap.size ≤ b1) := by
    rintro (h | h)
    ·exact HS.out b1 hSb h
    ·omega
   have e5 : EVal.size = 5 := rfl
   have p0 := (hK.cell (p := ⟨b1, _, none⟩) hbl hnb).trans (hcell 0 _ rfl)
   have p1 := (hK.cell (p := ⟨b1, _, none⟩) hbl hnb).trans (hcell 1 _ rfl)
   have p2 := (hK.cell (p := ⟨b1, _, none⟩) hbl hnb).trans (hcell 2 _ rfl)
   have p3 := (hK.cell (p := ⟨b1, _, none⟩) hbl hnb).trans (hcell 3 _ rfl)
   have p4 := (hK.cell (p := ⟨b1, _, none⟩) hbl hnb).trans (hcell 4 _ rfl)
   simp only [e5, Nat.add_zero] at p0 p1 p2 p3 p4
   have hok : G (F.mk ⟨#[]⟩ x.l[pre.length]) := HG.out _ (by unfold kids kidsL; exact List.mem_append_left _ (List.mem_map.2 ⟨_, List.getElem_mem hlt2, rfl⟩))
   generalize hy0 : x.l[pre.length] = y at *
   obtain ⟨kid, hkid⟩ : ∃ kid : Kid w S G, kid = ⟨⟨#[]⟩, y, B1, z1, B2, z2, hva, hok⟩ := ⟨_, rfl⟩
   have hJ2 := HJ.out pre wr _ none hJs (World.grownBy_alloc wr (.cells #[U8 y.kind, .int .i64 y.n, .string y.s, .slice B1 y.l.length z1, .slice B2 y.o.length z2] TVAL) none) (fun r e => by cases e)
   obtain ⟨fn, tmps, assign, body, hy, hR⟩ := HY.out pre kid _ hJ2 (by omega)
   have hkv : kid.kv = F.mk ⟨#[]⟩ y := by rw [hkid]; rfl
   rw [hkid] at hy
   simp only [Kid.enc] at hy
   have HP := hid (And.intro hpre (And.intro hpre2 (And.intro hpx hkv)))
   have HKA := hid (hk.alloc (.cells #[U8 y.kind, .int .i64 y.n, .string y.s, .slice B1 y.l.length z1, .slice B2 y.o.length z2] TVAL))
   have HR := hid hR
   have HKID := hid hkid
   clear hpre hpre2 hpx hkv hcell hrd e5 hy0 hK hk hJs hJ2 hR hkid hnb
   gi_wp2
   refine HR.out.mono ?_
   rintro e W' (⟨rfl, hJ', hk'⟩ | ⟨rfl, hJx'⟩)
   ·have HJ3 := hid hJ'
    have HK3 := hid (kp_t HKA.out hk')
    clear hJ' hk' p0 p1 p2 p3 p4 hy
    gi_wp2
    go_roundw
    case rel => exact ⟨pre ++ [kid], by simp; omega, by simp, by rw [List.map_append, HP.out.1, List.length_append, List.length_singleton, HP.out.2.1, List.map_singleton, HP.out.2.2.2], HJ3.out, HK3.out⟩
    case measure => simp [intOf]; omega
   ·have HJ3 := hid hJx'
    clear hJx' p0 p1 p2 p3 p4 hy
    gi_wp2
    refine bodyPost_ret (results_none rfl _ _ _) rfl ?_
    exact ⟨⟨_, rfl⟩, .inr ⟨pre ++ [kid], by rw [List.map_append, HP.out.1, List.map_singleton, HP.out.2.2.2, ← HP.out.2.1]; exact HP.out.2.2.1, HJ3.out⟩⟩
  ·have hjl : pre.length = x.l.length := by omega
   have q4 : wr.cell? ⟨vb, 4, none⟩ = some (.slice A' x.o.length c') := (HB.out.keep hK (by rintro (h | h); exact hne h; omega)).cell 4
   have hpre1 : pre.map Kid.kv = kidsL x.l ++ x.o.take 0 := by rw [hpre, hjl, List.take_length]; simp
   have HP0 := hid hpre1
   have HJ0 := hid hJs
   have HK0 := hid hk
   clear hpre hpre1 hJs hk hK hjl
   gi_wp2
   gi_loopw [22] (fun i ws => ∃ (pt : List (Kid w S G)) (j : Nat), j ≤ x.o.length ∧ i = .int .i64 j ∧ pt.map Kid.kv = kidsL x.l ++ x.o.take j ∧ J pt ws ∧ KpW nb w.heap.size W ws) (fun i ws => x.o.length - (intOf i).toNat)
   case atStart => exact ⟨pre, 0, by omega, rfl, HP0.out, HJ0.out, HK0.out⟩
   case round =>
    obtain ⟨pt, j, hj2, rfl, hpt, hJs, hk⟩ := hrel
    have hK : Keep (fun k => k = nb ∨ w.heap.size ≤ k) w wr := (HE.out.mono fun _ _ h => h.elim).trans hk fun _ _ h => h
    have hptl : pt.length = x.l.length + j := by
     have := congrArg List.length hpt
     simp [kidsL] at this
     omega
    by_cases hlt3 : j < x.o.length
    ·have hpre2 := take_succ_get _ _ hlt3
     have hpx : kidsL x.l ++ x.o.take (j + 1) <+: kids x := ⟨x.o.drop (j + 1), by rw [kids, List.append_assoc, List.take_append_drop]⟩
     obtain ⟨b1, o1, c0, rfl, hSb, hbl, hrd, hcell⟩ := HO.out.at_ EField.ok hlt3
     obtain ⟨lv1, ov1, rfl, ⟨D1, g1, rfl⟩, ⟨D2, g2, rfl⟩, hva⟩ := EField_cells hrd
     have hnb : ¬ (b1 = nb ∨ w.heap.size ≤ b1) := by
      rintro (h | h)
      ·exact HS.out b1 hSb h
      ·omega
     have e5 : EField.size = 6 := rfl
     have p0 := (hK.cell (p := ⟨b1, _, none⟩) hbl hnb).trans (hcell 0 _ rfl)
     have p1 := (hK.cell (p := ⟨b1, _, none⟩) hbl hnb).trans (hcell 1 _ rfl)
     have p2 := (hK.cell (p := ⟨b1, _, none⟩) hbl hnb).trans (hcell 2 _ rfl)
     have p3 := (hK.cell (p := ⟨b1, _, none⟩) hbl hnb).trans (hcell 3 _ rfl)
     have p4 := (hK.cell (p := ⟨b1, _, none⟩) hbl hnb).trans (hcell 4 _ rfl)
     have p5 := (hK.cell (p := ⟨b1, _, none⟩) hbl hnb).trans (hcell 5 _ rfl)
     simp only [e5, Nat.add_zero] at p0 p1 p2 p3 p4 p5
     have hok : G x.o[j] := HG.out _ (by unfold kids; exact List.mem_append_right _ (List.getElem_mem hlt3))
     generalize hy0 : x.o[j] = y at *
     have hok2 : G (F.mk y.key y.v) := by cases y; exact hok
     obtain ⟨kid, hkid⟩ : ∃ kid : Kid w S G, kid = ⟨y.key, y.v, D1, g1, D2, g2, hva, hok2⟩ := ⟨_, rfl⟩
     have hJ2 := HJ.out pt wr _ none hJs (World.grownBy_alloc wr (.cells #[.string y.key, U8 y.v.kind, .int .i64 y.v.n, .string y.v.s, .slice D1 y.v.l.length g1, .slice D2 y.v.o.length g2] TFIELD) none) (fun r e => by cases e)
     obtain ⟨fn, tmps, assign, body, hy, hR⟩ := HY.out pt kid _ hJ2 (by omega)
     have hkv : kid.kv = y := by rw [hkid]; cases y; rfl
     rw [hkid] at hy
     simp only [Kid.enc] at hy
     have HP := hid (And.intro hpt (And.intro hpre2 (And.intro hpx hkv)))
     have HKA := hid (hk.alloc (.cells #[.string y.key, U8 y.v.kind, .int .i64 y.v.n, .string y.v.s, .slice D1 y.v.l.length g1, .slice D2 y.v.o.length g2] TFIELD))
     have HR := hid hR
     have HKID := hid hkid
     clear hpt hpre2 hpx hkv hcell hrd e5 hy0 hK hk hJs hJ2 hR hkid hnb q4
     gi_wp2
     refine HR.out.mono ?_
     rintro e W' (⟨rfl, hJ', hk'⟩ | ⟨rfl, hJx'⟩)
     ·have HJ3 := hid hJ'
      have HK3 := hid (kp_t HKA.out hk')
      clear hJ' hk' p0 p1 p2 p3 p4 p5 hy
      gi_wp2
      go_roundw
      case rel => exact ⟨pt ++ [kid], j + 1, by omega, by go_num, by rw [List.map_append, HP.out.1, HP.out.2.1, List.map_singleton, HP.out.2.2.2, List.append_assoc], HJ3.out, HK3.out⟩
      case measure => simp [intOf]; omega
     ·have HJ3 := hid hJx'
      clear hJx' p0 p1 p2 p3 p4 p5 hy
      gi_wp2
      refine bodyPost_ret (results_none rfl _ _ _) rfl ?_
      exact ⟨⟨_, rfl⟩, .inr ⟨pt ++ [kid], by rw [List.map_append, HP.out.1, List.map_singleton, HP.out.2.2.2, List.append_assoc, ← HP.out.2.1]; exact HP.out.2.2.1, HJ3.out⟩⟩
    ·obtain rfl : j = x.o.length := by omega
     have HP := hid (show pt.map Kid.kv = kids x from by rw [hpt, List.take_length]; rfl)
     have HJ3 := hid hJs
     clear hpt hJs hk hK q4
     gi_wp2
     go_end0
     exact ⟨⟨_, rfl⟩, .inl ⟨pt, HP.out, HJ3.out⟩⟩
theorem within_ok (a0 a1 a2 a3 a4 : Value) (w : World) :
  Calls Tryz.prog 127 #[.agg #[a0, a1, a2, a3, a4]] w fun e w' => e = .returned (.func (.func 145) #[] #[.pointer (some ⟨w.heap.size, 0, none⟩)]) ∧ w' = w.alloc (.cells #[a0, a1, a2, a3, a4] TVAL) := by
 go_enter Tryz.func127, Tryz.ntmps127
 go_wp2
 go_ret
 exact ⟨rfl, rfl⟩
end Go.Proofs.YtihaliffcobacaaGreatDoor
namespace Go.Proofs.YtihaliffcobacaaGreatDoor
open Go.RowKit Go.Shelf
attribute [local go_sem] Oper.semAt_some
theorem callsOf {P : Program} {f : FuncId} {fn : Func} {c : Code} {args : Array Value} {w : World} {R : Ending → World → Prop} (hf : P.funcs[f]? = some fn) (hb : fn.body = some c)
  (h : c.wpIn Fence.wide 5 P (bodyPostM Fence.wide 5 P fn R) { tmps := args ++ Array.replicate (fn.ntmps - args.size) undef, defers := [] } w) : Calls P f args w R := callsIn_wide.1 (callsIn_of_wp_marks hf hb trivial h rfl)
theorem kidsL_weights : ∀ l : List V, F.weights (kidsL l) = V.weights l
 | [] => by simp [kidsL, F.weights, V.weights]
 | v :: vs => by
  have := kidsL_weights vs
  unfold kidsL at this ⊢
  rw [List.map_cons, F.weights, V.weights, this, F.weight]
  show (0 : Nat) + _ + _ = _
  omega
theorem kids_weights (x : V) : 1 + x.s.size + F.weights (kids x) = x.weight := by rw [kids, F.weights_append, kidsL_weights, V.weight_eq]
theorem kids_mem {x : V} {f : F} (h : f ∈ kids x) : f.v.size < x.size := by
 have hs := V.size_eq x
 unfold kids kidsL at h
 rcases List.mem_append.1 h with h | h
 ·obtain ⟨y, hy, rfl⟩ := List.mem_map.1 h
  have := V.sizes_mem hy
  show y.size < _
  omega
 ·have := F.sizes_mem h
  omega
theorem wrap_add (a b c : Int) : wrap64 (wrap64 a + wrap64 (b + wrap64 c)) = wrap64 (a + (b + c)) := by unfold wrap64; omega
theorem keepsFrom_of {b B : Nat} {W W' : World} (h : Keep (· = b) W W') (hb : b < B) : KeepsFrom B W W' :=
 ⟨h.size, fun k o hB ho _ => (h.block k (Array.getElem?_eq_some_iff.1 ho).1 (by omega)).trans ho⟩
set_option maxRecDepth 100000 in
theorem weight_any : ∀ (m : Nat) (x : V), x.size ≤ m → ∀ (u : Value) (S : BS) (w : World), VAt w S u x →
  Calls Tryz.prog 99 #[u] w fun e w' => e = .returned (.int .i64 (wrap64 x.weight)) ∧ Ext w w' := by
 intro m
 induction m with
 | zero => intro x h; have := x.size_pos; omega
 | succ m ih =>
 intro x hsz u S w hu
 obtain ⟨lv, ov, rfl, hl, ho⟩ := hu.cut
 obtain ⟨A, c, rfl, hlc, hcm⟩ := hl.shape
 obtain ⟨A', c', rfl, hlc', hcm'⟩ := ho.shape
 have HIH := hid ih
 have HL := hid hl
 have HO := hid ho
 have HSZ := hid hsz
 clear ih hu hl ho hsz
 refine callsOf Tryz.func99 rfl ?_
 simp only [Tryz.ntmps99, List.size_toArray, List.length_cons, List.length_nil, Nat.reduceAdd, Nat.reduceSub, Array.replicate_succ, Array.replicate_zero, List.push_toArray, List.append_toArray, List.nil_append, List.cons_append]
 gi_wp2_with fail
 refine ⟨trivial, (callsIn_wide.2 (within_ok _ _ _ _ _ _)).mono ?_⟩
 rintro e w' ⟨rfl, rfl⟩
 gi_wp2_with fail
 obtain ⟨W0, hW0⟩ : ∃ W0, ((w.alloc (.cells #[U8 x.kind, .int .i64 x.n, .string x.s, .slice A x.l.length c, .slice A' x.o.length c'] TVAL)).alloc (.cells #[.int .i64 (wrap64 (1 + x.s.size))] 3)).alloc (.cells #[U8 x.kind, .int .i64 x.n, .string x.s, .slice A x.l.length c, .slice A' x.o.length c'] TVAL) = W0 := ⟨_, rfl⟩
 have hE0 : Ext w W0 := by rw [← hW0]; exact (((Keep.refl _ _).alloc _).alloc _).alloc _
 have hsz : W0.heap.size = w.heap.size + 3 := by rw [← hW0]; simp
 have hb1 : Blk W0 (w.heap.size + 1) 3 #[.int .i64 (wrap64 (1 + x.s.size))] := by
  have := (Blk.new (w.alloc (.cells #[U8 x.kind, .int .i64 x.n, .string x.s, .slice A x.l.length c, .slice A' x.o.length c'] TVAL)) 3 #[.int .i64 (wrap64 (1 + x.s.size))]).alloc (.cells #[U8 x.kind, .int .i64 x.n, .string x.s, .slice A x.l.length c, .slice A' x.o.length c'] TVAL)
  rw [World.size_alloc] at this
  rw [← hW0]; exact this
 have hb2 : Blk W0 (w.heap.size + 1 + 1) TVAL #[U8 x.kind, .int .i64 x.n, .string x.s, .slice A x.l.length c, .slice A' x.o.length c'] := by
  have := Blk.new ((w.alloc (.cells #[U8 x.kind, .int .i64 x.n, .string x.s, .slice A x.l.length c, .slice A' x.o.length c'] TVAL)).alloc (.cells #[.int .i64 (wrap64 (1 + x.s.size))] 3)) TVAL #[U8 x.kind, .int .i64 x.n, .string x.s, .slice A x.l.length c, .slice A' x.o.length c']
  rw [World.size_alloc, World.size_alloc] at this
  rw [← hW0]; exact this
 simp only [hW0]
 have HE0 := hid hE0
 have HS0 := hid hsz
 have hst := within_stops 4 (w.heap.size + 1 + 1) (w.heap.size + 1) W0 _ x _ _ (by omega) hb2 (HL.out.ext EVal.ok hE0) (HO.out.ext EField.ok hE0) (fun f => f.v.size ≤ m) (fun f hf => by have := kids_mem hf; have := HSZ.out; omega) (fun k hk => by have := hk.2; omega) (by omega)
 clear hW0 hE0 hb2
 refine wpIn_rangeFunc_ownH rfl (by omega) (gf := 145) (lb := #[.pointer (some ⟨w.heap.size + 1 + 1, 0, none⟩)]) rfl trivial (enters_of Tryz.func145 (by kernel_rfl) rfl) hst kp_t kp_b (Below.refl _ _) (fun _ => rfl)
  (fun pre W => Blk W (w.heap.size + 1) 3 #[.int .i64 (wrap64 (1 + x.s.size + F.weights (pre.map Kid.kv)))] ∧ Keep (· = w.heap.size + 1) W0 W)
  (fun _ _ _ => False)
  (fun s X Y row hs hg hr => ⟨hs.1.grown hg (fun e => by have := (hr _ e.symm).1; omega), hs.2.grown hg fun k e hk => by have := (hr k e).1; omega⟩)
  (fun _ _ _ _ _ hs _ _ => hs.elim)
  ⟨by simpa [F.weights] using hb1, Keep.refl _ _⟩
  (fun kid a' W => ∃ Bx, W0.heap.size ≤ Bx ∧ Blk W Bx TVAL #[U8 kid.v.kind, .int .i64 kid.v.n, .string kid.v.s, .slice kid.A1 kid.v.l.length kid.c1, .slice kid.A2 kid.v.o.length kid.c2] ∧ a' = { tmps := #[.agg #[U8 x.kind, .int .i64 x.n, .string x.s, .slice A x.l.length c, .slice A' x.o.length c'], .pointer (some ⟨w.heap.size, 0, none⟩), .int .i64 0, .pointer (some ⟨w.heap.size + 1, 0, none⟩), .string kid.key, .pointer (some ⟨Bx, 0, none⟩), .pointer (some ⟨w.heap.size, 2, none⟩), .string x.s, .int .i64 x.s.size, .int .i64 (wrap64 (1 + x.s.size)),
   .agg #[U8 x.kind, .int .i64 x.n, .string x.s, .slice A x.l.length c, .slice A' x.o.length c'], .func (.func 145) #[] #[.pointer (some ⟨w.heap.size + 1 + 1, 0, none⟩)], .string kid.key, .agg #[U8 kid.v.kind, .int .i64 kid.v.n, .string kid.v.s, .slice kid.A1 kid.v.l.length kid.c1, .slice kid.A2 kid.v.o.length kid.c2], undef, undef, undef, undef, undef, undef, undef, undef], defers := [] })
  (fun kid a' s X Y row hs hg hr => by
   obtain ⟨Bx, h1, h2, h3⟩ := hs
   refine ⟨Bx, h1, h2.grown hg (fun e => ?_), h3⟩
   obtain ⟨_, o, ho, hc⟩ := hr _ e.symm
   unfold Blk at h2
   rw [h2] at ho
   cases ho
   cases hc)
  ?assign ?body ?done ?stop
 case assign =>
  rintro l pre kid W K ⟨hb, hk⟩ hK
  have hws := hk.size
  simp only [Kid.enc]
  gi_wp2
  exact hK _ _ ((KeepsOthers.alloc _ _).from _) (Keep.alloc (Keep.refl _ _) _) ⟨hb.alloc _, hk.alloc _⟩ ⟨W.heap.size, hws, Blk.new _ _ _, rfl⟩
 case body =>
  rintro l pre kid a' W hlw _ ⟨hb, hk⟩ ⟨Bx, hBx, hbx, rfl⟩ hlen
  have q0 := hb.cell 0
  have f0 := hb.frozen 0
  obtain ⟨p0, p1, p2, p3, p4⟩ := blk5 hbx
  have q0 : W.cell? ⟨w.heap.size + 1, 0, none⟩ = some (.int .i64 (wrap64 (1 + x.s.size + F.weights (pre.map Kid.kv)))) := q0
  have HB := hid hb
  have HK := hid hk
  have HV := hid (VAt.keep kid.at_ hk fun k hk e => by have := hk.2; omega)
  have HKS := hid kid.ok
  clear hb hk hbx hst
  gi_wp2_with fail
  refine wpIn_region_parts [1, 2] [0, 3, 4, 5] [6, 7] (specOf [(4, fun v _ => v = .int .i64 (wrap64 kid.v.weight))]) (fun w' => Ext W w') (stable_cons (fun v w w' h he => h) stable_nil) (stableC_ext _) (by kernel_rfl) (by kernel_rfl) (by kernel_rfl) (fun ⟨_, _, h⟩ => h) (Keep.drew (Keep.refl _ _)) ?_
  iterate 2
   (try simp only [Act.put, sqa, sqb, sqc])
   refine pure_run rfl rfl ?_
   apply Exists.intro
   refine ⟨fun w' => ?_, ?_⟩
   ·go_simp
    rfl
  refine pure_nil ?_
  iterate 2
   (try simp only [Act.put, sqa, sqb, sqc])
   refine growP_run rfl rfl rfl ?_
   apply Exists.intro
   refine ⟨fun w' hC hK => ?_, ?_⟩
   ·have q0 := sqw hC q0
    have p0 := sqw hC p0
    have p1 := sqw hC p1
    have p2 := sqw hC p2
    have p3 := sqw hC p3
    have p4 := sqw hC p4
    go_simp
    rfl
  (try simp only [Act.put, sqa, sqb, sqc])
  refine growP_eff rfl rfl rfl (fun w' hC hK => ?_) (fun v4 hv4 => ?_)
  ·unfold growAt
   go_simp
   refine grow_call ((HIH.out kid.v HKS.out _ _ w' (HV.out.ext hC)).mono ?_)
   rintro e w'' ⟨rfl, h1⟩
   exact ⟨_, rfl, h1, rfl⟩
  obtain ⟨_, _, rfl⟩ := hv4.head
  iterate 1
   (try simp only [Act.put, sqa, sqb, sqc])
   refine growP_run rfl rfl rfl ?_
   apply Exists.intro
   refine ⟨fun w' hC hK => ?_, ?_⟩
   ·go_simp
    rfl
  refine growP_nil fun w5 hC _ => ?_
  have hb5 := HB.out.keep hC id
  have q5 : w5.cell? ⟨w.heap.size + 1, 0, none⟩ = some (.int .i64 (wrap64 (1 + x.s.size + F.weights (pre.map Kid.kv)))) := hb5.cell 0
  have f5 := hb5.frozen 0
  have hkC := hid (show Ext W w5 from hC)
  have HB5 := hid hb5
  clear hC hv4 q0 f0 p0 p1 p2 p3 p4 hb5
  change wpList _ _ _ (_ :: _ :: []) _ _
  (try simp only [Act.put, sqa, sqb, sqc])
  go_wp2
  refine NoPanic.normal ?_
  have hset : Keep (· = w.heap.size + 1) w5 (w5.setCell ⟨w.heap.size + 1, 0, none⟩ (.int .i64 (wrap64 (wrap64 (1 + x.s.size + F.weights (pre.map Kid.kv)) + wrap64 (kid.key.size + wrap64 kid.v.weight))))) := Keep.setAt (Keep.refl (· = w.heap.size + 1) w5) (fun _ => rfl) 0 _
  have hall : Keep (· = w.heap.size + 1) W (w5.setCell ⟨w.heap.size + 1, 0, none⟩ (.int .i64 (wrap64 (wrap64 (1 + x.s.size + F.weights (pre.map Kid.kv)) + wrap64 (kid.key.size + wrap64 kid.v.weight))))) := (hkC.out.mono fun _ _ h => h.elim).trans hset fun _ _ h => h
  refine ⟨keepsFrom_of hall (by have := HS0.out; omega), hall.mono fun _ _ h => .inl h, ?_, HK.out.trans hall fun _ _ h => h⟩
  have hs := HB5.out.set_ 0 (.int .i64 (wrap64 (wrap64 (1 + x.s.size + F.weights (pre.map Kid.kv)) + wrap64 (kid.key.size + wrap64 kid.v.weight))))
  have hsum : wrap64 (1 + x.s.size + F.weights ((pre ++ [kid]).map Kid.kv)) = wrap64 (wrap64 (1 + x.s.size + F.weights (pre.map Kid.kv)) + wrap64 (kid.key.size + wrap64 kid.v.weight)) := by
   rw [wrap_add, List.map_append, F.weights_append, List.map_singleton, F.weights_one, F.weight_eq]
   congr 1
   show _ = _
   simp only [Kid.kv, F.key, F.v]
   omega
  rw [hsum]
  exact hs
 case done =>
  rintro D xs W hD hxs ⟨hb, hk⟩ hK
  have q0 : W.cell? ⟨w.heap.size + 1, 0, none⟩ = some (.int .i64 (wrap64 (1 + x.s.size + F.weights (xs.map Kid.kv)))) := hb.cell 0
  have hfin := kids_weights x
  have HFIN := hid (show wrap64 (1 + x.s.size + F.weights (xs.map Kid.kv)) = wrap64 x.weight from by rw [hxs]; congr 1; omega)
  have HEND := hid (show Ext w (W.putObj D (.deferred none)) from (Keep.trans HE0.out hk fun k hk e => by omega).grown (grownBy_putObj' W D (.deferred none)) fun k e hk2 => by cases e; omega)
  clear hfin hxs hb hk hst
  gi_wp2
  refine ⟨by simp, .inl ⟨_, _, rfl, run_takeDeferred hK, ?_⟩⟩
  refine ⟨_, results_tmp rfl _ _ _, ?_, HEND.out⟩
  show Ending.returned (.int .i64 (wrap64 (1 + x.s.size + F.weights (xs.map Kid.kv)))) = _
  rw [HFIN.out]
 case stop =>
  rintro D c pre W _ _ h _
  exact h.elim
end Go.Proofs.YtihaliffcobacaaGreatDoor
