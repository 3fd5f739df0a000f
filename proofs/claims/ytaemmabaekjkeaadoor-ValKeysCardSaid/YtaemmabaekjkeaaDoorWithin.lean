/- val.within: an iterator over the values in one: whatever the loop's body does with them. -/
import Derived.Test.YtaemmabaekjkeaaDoorGrowIn
import Derived.Test.YtaemmabaekjkeaaDoorPathA
import Derived.Test.YtaemmabaekjkeaaDoorLawOneA
import Derived.Shelf.Abstract
import Derived.Shelf.RegionOpen
import Derived.WalkKit
import Derived.OwnWalkIn
import Derived.TacticsInMore
import Derived.LoopNIn
import Derived.LoopIn
set_option linter.unusedSimpArgs false
set_option linter.unusedVariables false
namespace Go.Proofs.YtaemmabaekjkeaaDoor
open Go.RowKit Go.Shelf
set_option linter.unusedVariables false
attribute [local go_sem] Oper.semAt_some

/-- A value in one, as it lies in memory in w0, with its key. -/
structure Kid (w0 : World) (S : BS) (G : F → Prop) where
  key : ByteArray
  v : V
  A1 : Option Addr
  c1 : Nat
  A2 : Option Addr
  c2 : Nat
  at_ : VAt w0 S (.agg #[U8 v.kind, .int .i64 v.n, .string v.s, .slice A1 v.l.length c1, .slice A2 v.o.length c2]) v
  ok : G (.mk key v)
section
variable {w0 : World} {S : BS} {G : F → Prop}
def Kid.enc (x : Kid w0 S G) : Array Value := #[.string x.key, .agg #[U8 x.v.kind, .int .i64 x.v.n, .string x.v.s, .slice x.A1 x.v.l.length x.c1, .slice x.A2 x.v.o.length x.c2]]
def Kid.kv (x : Kid w0 S G) : F := .mk x.key x.v
end
/-- The values in one, each with its key (none in a list). -/
def kidsL (l : List V) : List F := l.map fun y => .mk ⟨#[]⟩ y
def kids (x : V) : List F := kidsL x.l ++ x.o

/-- What a round keeps: all but the box nb, and what has come since the loop began. -/
def KpW (nb B : Nat) (W W' : World) : Prop := Keep (fun k => k = nb ∨ B ≤ k) W W'
theorem kp_t {nb B : Nat} {X Y Z : World} (h : KpW nb B X Y) (k : KpW nb B Y Z) : KpW nb B X Z := Keep.trans h k fun _ _ x => x
theorem kp_b {nb B : Nat} (W : World) (l : Nat) (o o' : Obj) (hl : B ≤ l) (_ : W.heap[l]? = some o) (_ : o.isCells = false) (_ : o.isWalk = false) : KpW nb B W (W.putObj l o') :=
  Keep.grown (Keep.refl _ _) (grownBy_putObj' W l o') fun k e _ => .inr (by cases e; exact hl)
theorem ext_of_below {w w' : World} (h : Below w.heap.size w w') : Ext w w' := Keep.of_below h fun k h1 h2 => absurd h1 (Nat.not_lt.2 h2)

set_option maxRecDepth 100000 in
set_option maxHeartbeats 3200000 in
theorem within_stops (m vb nb : Nat) (w : World) (S : BS) (x : V) (lv ov : Value) (hm : 1 ≤ m) (hvb : Blk w vb TVAL #[U8 x.kind, .int .i64 x.n, .string x.s, lv, ov]) (hl : Sl EVal w S lv x.l) (ho : Sl EField w S ov x.o)
    (G : F → Prop) (hG : ∀ f ∈ kids x, G f) (hS : ∀ k, S k → k ≠ nb) (hne : vb ≠ nb) :
    SeqStopsK Fence.wide m Tryd.prog 40 #[.pointer (some ⟨vb, 0, none⟩)] (Kid.enc (w0 := w) (S := S) (G := G)) (KpW nb w.heap.size) (fun xs => xs.map Kid.kv = kids x) (fun pre => pre.map Kid.kv <+: kids x) (kids x).length w := by
  intro l J Jx W hW hJ hJx hY h0
  have hE := ext_of_below hW
  have hlt := hvb.lt
  obtain ⟨A, c, rfl, hlc, hcm⟩ := hl.shape
  obtain ⟨A', c', rfl, hlc', hcm'⟩ := ho.shape
  unfold maxLen at hcm hcm'
  have HL := hid hl
  have HO := hid ho
  have HB := hid hvb
  have HJ := hid hJ
  have HY := hid hY
  have HS := hid hS
  have HG := hid hG
  have hb := hvb.keep hE id
  have q3 : W.cell? ⟨vb, 3, none⟩ = some (.slice A x.l.length c) := hb.cell 3
  have HE := hid hE
  have hkl : (kids x).length = x.l.length + x.o.length := by simp [kids, kidsL]
  clear hl ho hvb hJ hY hb hE hW hS hG
  refine callsIn_of_wp Tryd.func40 rfl trivial ?_ rfl
  simp only [Tryd.ntmps40, List.size_toArray, List.length_cons, List.length_nil, Nat.reduceAdd, Nat.reduceSub, Array.replicate_succ, Array.replicate_zero, List.push_toArray, List.append_toArray, List.nil_append, List.cons_append]
  gi_wp2
  gi_loopw [10] (fun i wr => ∃ pre : List (Kid w S G), pre.length ≤ x.l.length ∧ i = .int .i64 pre.length ∧ pre.map Kid.kv = kidsL (x.l.take pre.length) ∧ J pre wr ∧ KpW nb w.heap.size W wr) (fun i wr => x.l.length - (intOf i).toNat)
  case atStart => exact ⟨[], by simp, rfl, by simp [kidsL], h0, Keep.refl _ _⟩
  case round =>
    obtain ⟨pre, hj, rfl, hpre, hJs, hk⟩ := hrel
    have hK : Keep (fun k => k = nb ∨ w.heap.size ≤ k) w wr := (HE.out.mono fun _ _ h => h.elim).trans hk fun _ _ h => h
    by_cases hlt2 : pre.length < x.l.length
    · have hpre2 : kidsL (x.l.take (pre.length + 1)) = kidsL (x.l.take pre.length) ++ [F.mk ⟨#[]⟩ x.l[pre.length]] := by
        unfold kidsL; rw [take_succ_get _ _ hlt2, List.map_append]; rfl
      have hpx : kidsL (x.l.take (pre.length + 1)) <+: kids x := by
        refine ⟨kidsL (x.l.drop (pre.length + 1)) ++ x.o, ?_⟩
        rw [kids, ← List.append_assoc, kidsL, kidsL, kidsL, ← List.map_append, List.take_append_drop]
      obtain ⟨b1, o1, c0, rfl, hSb, hbl, hrd, hcell⟩ := HL.out.at_ EVal.ok hlt2
      obtain ⟨B1, n1, z1, B2, n2, z2, rfl, rfl, rfl, hva⟩ := EVal_cells hrd
      have hnb : ¬ (b1 = nb ∨ w.heap.size ≤ b1) := by
        rintro (h | h)
        · exact HS.out b1 hSb h
        · omega
      have e5 : EVal.size = 5 := rfl
      have p0 := (hK.cell (p := ⟨b1, _, none⟩) hbl hnb).trans (hcell 0 _ rfl)
      have p1 := (hK.cell (p := ⟨b1, _, none⟩) hbl hnb).trans (hcell 1 _ rfl)
      have p2 := (hK.cell (p := ⟨b1, _, none⟩) hbl hnb).trans (hcell 2 _ rfl)
      have p3 := (hK.cell (p := ⟨b1, _, none⟩) hbl hnb).trans (hcell 3 _ rfl)
      have p4 := (hK.cell (p := ⟨b1, _, none⟩) hbl hnb).trans (hcell 4 _ rfl)
      simp only [e5, Nat.add_zero] at p0 p1 p2 p3 p4
      have hok : G (F.mk ⟨#[]⟩ x.l[pre.length]) := HG.out _ (by unfold kids kidsL; exact List.mem_append_left _ (List.mem_map.2 ⟨_, List.getElem_mem hlt2, rfl⟩))
      generalize hy0 : x.l[pre.length] = y at *
      obtain ⟨kid, hkid⟩ : ∃ kid : Kid w S G, kid = ⟨⟨#[]⟩, y, B1, z1, B2, z2, hva, hok⟩ := ⟨_, rfl⟩
      have hJ2 := HJ.out pre wr _ none hJs (World.grownBy_alloc wr (.cells #[U8 y.kind, .int .i64 y.n, .string y.s, .slice B1 y.l.length z1, .slice B2 y.o.length z2] TVAL) none) (fun r e => by cases e)
      obtain ⟨fn, tmps, assign, body, hy, hR⟩ := HY.out pre kid _ hJ2 (by omega)
      have hkv : kid.kv = F.mk ⟨#[]⟩ y := by rw [hkid]; rfl
      rw [hkid] at hy
      simp only [Kid.enc] at hy
      have HP := hid (And.intro hpre (And.intro hpre2 (And.intro hpx hkv)))
      have HKA := hid (hk.alloc (.cells #[U8 y.kind, .int .i64 y.n, .string y.s, .slice B1 y.l.length z1, .slice B2 y.o.length z2] TVAL))
      have HR := hid hR
      have HKID := hid hkid
      clear hpre hpre2 hpx hkv hcell hrd e5 hy0 hK hk hJs hJ2 hR hkid hnb
      gi_wp2
      refine HR.out.mono ?_
      rintro e W' (⟨rfl, hJ', hk'⟩ | ⟨rfl, hJx'⟩)
      · have HJ3 := hid hJ'
        have HK3 := hid (kp_t HKA.out hk')
        clear hJ' hk' p0 p1 p2 p3 p4 hy
        gi_wp2
        go_roundw
        case rel => exact ⟨pre ++ [kid], by simp; omega, by simp, by rw [List.map_append, HP.out.1, List.length_append, List.length_singleton, HP.out.2.1, List.map_singleton, HP.out.2.2.2], HJ3.out, HK3.out⟩
        case measure => simp [intOf]; omega
      · have HJ3 := hid hJx'
        clear hJx' p0 p1 p2 p3 p4 hy
        gi_wp2
        refine bodyPost_ret (results_none rfl _ _ _) rfl ?_
        exact ⟨⟨_, rfl⟩, .inr ⟨pre ++ [kid], by rw [List.map_append, HP.out.1, List.map_singleton, HP.out.2.2.2, ← HP.out.2.1]; exact HP.out.2.2.1, HJ3.out⟩⟩
    · have hjl : pre.length = x.l.length := by omega
      have q4 : wr.cell? ⟨vb, 4, none⟩ = some (.slice A' x.o.length c') := (HB.out.keep hK (by rintro (h | h); exact hne h; omega)).cell 4
      have hpre1 : pre.map Kid.kv = kidsL x.l ++ x.o.take 0 := by rw [hpre, hjl, List.take_length]; simp
      have HP0 := hid hpre1
      have HJ0 := hid hJs
      have HK0 := hid hk
      clear hpre hpre1 hJs hk hK hjl
      gi_wp2
      gi_loopw [22] (fun i ws => ∃ (pt : List (Kid w S G)) (j : Nat), j ≤ x.o.length ∧ i = .int .i64 j ∧ pt.map Kid.kv = kidsL x.l ++ x.o.take j ∧ J pt ws ∧ KpW nb w.heap.size W ws) (fun i ws => x.o.length - (intOf i).toNat)
      case atStart => exact ⟨pre, 0, by omega, rfl, HP0.out, HJ0.out, HK0.out⟩
      case round =>
        obtain ⟨pt, j, hj2, rfl, hpt, hJs, hk⟩ := hrel
        have hK : Keep (fun k => k = nb ∨ w.heap.size ≤ k) w wr := (HE.out.mono fun _ _ h => h.elim).trans hk fun _ _ h => h
        have hptl : pt.length = x.l.length + j := by
          have := congrArg List.length hpt
          simp [kidsL] at this
          omega
        by_cases hlt3 : j < x.o.length
        · have hpre2 := take_succ_get _ _ hlt3
          have hpx : kidsL x.l ++ x.o.take (j + 1) <+: kids x := ⟨x.o.drop (j + 1), by rw [kids, List.append_assoc, List.take_append_drop]⟩
          obtain ⟨b1, o1, c0, rfl, hSb, hbl, hrd, hcell⟩ := HO.out.at_ EField.ok hlt3
          obtain ⟨lv1, ov1, rfl, ⟨D1, g1, rfl⟩, ⟨D2, g2, rfl⟩, hva⟩ := EField_cells hrd
          have hnb : ¬ (b1 = nb ∨ w.heap.size ≤ b1) := by
            rintro (h | h)
            · exact HS.out b1 hSb h
            · omega
          have e5 : EField.size = 6 := rfl
          have p0 := (hK.cell (p := ⟨b1, _, none⟩) hbl hnb).trans (hcell 0 _ rfl)
          have p1 := (hK.cell (p := ⟨b1, _, none⟩) hbl hnb).trans (hcell 1 _ rfl)
          have p2 := (hK.cell (p := ⟨b1, _, none⟩) hbl hnb).trans (hcell 2 _ rfl)
          have p3 := (hK.cell (p := ⟨b1, _, none⟩) hbl hnb).trans (hcell 3 _ rfl)
          have p4 := (hK.cell (p := ⟨b1, _, none⟩) hbl hnb).trans (hcell 4 _ rfl)
          have p5 := (hK.cell (p := ⟨b1, _, none⟩) hbl hnb).trans (hcell 5 _ rfl)
          simp only [e5, Nat.add_zero] at p0 p1 p2 p3 p4 p5
          have hok : G x.o[j] := HG.out _ (by unfold kids; exact List.mem_append_right _ (List.getElem_mem hlt3))
          generalize hy0 : x.o[j] = y at *
          have hok2 : G (F.mk y.key y.v) := by cases y; exact hok
          obtain ⟨kid, hkid⟩ : ∃ kid : Kid w S G, kid = ⟨y.key, y.v, D1, g1, D2, g2, hva, hok2⟩ := ⟨_, rfl⟩
          have hJ2 := HJ.out pt wr _ none hJs (World.grownBy_alloc wr (.cells #[.string y.key, U8 y.v.kind, .int .i64 y.v.n, .string y.v.s, .slice D1 y.v.l.length g1, .slice D2 y.v.o.length g2] TFIELD) none) (fun r e => by cases e)
          obtain ⟨fn, tmps, assign, body, hy, hR⟩ := HY.out pt kid _ hJ2 (by omega)
          have hkv : kid.kv = y := by rw [hkid]; cases y; rfl
          rw [hkid] at hy
          simp only [Kid.enc] at hy
          have HP := hid (And.intro hpt (And.intro hpre2 (And.intro hpx hkv)))
          have HKA := hid (hk.alloc (.cells #[.string y.key, U8 y.v.kind, .int .i64 y.v.n, .string y.v.s, .slice D1 y.v.l.length g1, .slice D2 y.v.o.length g2] TFIELD))
          have HR := hid hR
          have HKID := hid hkid
          clear hpt hpre2 hpx hkv hcell hrd e5 hy0 hK hk hJs hJ2 hR hkid hnb q4
          gi_wp2
          refine HR.out.mono ?_
          rintro e W' (⟨rfl, hJ', hk'⟩ | ⟨rfl, hJx'⟩)
          · have HJ3 := hid hJ'
            have HK3 := hid (kp_t HKA.out hk')
            clear hJ' hk' p0 p1 p2 p3 p4 p5 hy
            gi_wp2
            go_roundw
            case rel => exact ⟨pt ++ [kid], j + 1, by omega, by go_num, by rw [List.map_append, HP.out.1, HP.out.2.1, List.map_singleton, HP.out.2.2.2, List.append_assoc], HJ3.out, HK3.out⟩
            case measure => simp [intOf]; omega
          · have HJ3 := hid hJx'
            clear hJx' p0 p1 p2 p3 p4 p5 hy
            gi_wp2
            refine bodyPost_ret (results_none rfl _ _ _) rfl ?_
            exact ⟨⟨_, rfl⟩, .inr ⟨pt ++ [kid], by rw [List.map_append, HP.out.1, List.map_singleton, HP.out.2.2.2, List.append_assoc, ← HP.out.2.1]; exact HP.out.2.2.1, HJ3.out⟩⟩
        · obtain rfl : j = x.o.length := by omega
          have HP := hid (show pt.map Kid.kv = kids x from by rw [hpt, List.take_length]; rfl)
          have HJ3 := hid hJs
          clear hpt hJs hk hK q4
          gi_wp2
          go_end0
          exact ⟨⟨_, rfl⟩, .inl ⟨pt, HP.out, HJ3.out⟩⟩

set_option maxHeartbeats 1000000 in
theorem within_ok (a0 a1 a2 a3 a4 : Value) (w : World) :
    Calls Tryd.prog 30 #[.agg #[a0, a1, a2, a3, a4]] w fun e w' => e = .returned (.func (.func 40) #[] #[.pointer (some ⟨w.heap.size, 0, none⟩)]) ∧ w' = w.alloc (.cells #[a0, a1, a2, a3, a4] TVAL) := by
  go_enter Tryd.func30, Tryd.ntmps30
  go_wp2
  go_ret
  exact ⟨rfl, rfl⟩
end Go.Proofs.YtaemmabaekjkeaaDoor
