/- PathA, PathS, RefSame, OwnTwo: laid together. -/
import Derived.Test.YtioplgfopillnaaApB7
import Derived.Test.YtioplgfopillnaaApB3
import Derived.Test.YtioplgfopillnaaApB5
import Derived.Test.YtioplgfopillnaaApB6
import Derived.Laws.Cover1
import Derived.RegionTactic
import Derived.ChangeAlike
import Derived.Test.YtioplgfopillnaaApB2
/- val.Field and the reference's Field, by contract. -/
set_option linter.unusedSimpArgs false
set_option linter.unusedVariables false
namespace Go.Proofs.Ytioplgfopillnaa
open Go.RowKit
set_option linter.unusedVariables false



/-- Where a key stands, or would stand. -/
def fieldL (o : List F) (key : ByteArray) : Nat := (o.takeWhile fun f => keyLt f.key key).length
/-- Does it stand there? -/
def fieldIs (o : List F) (key : ByteArray) : Bool := match o[fieldL o key]? with | some f => f.key.toList == key.toList | none => false
theorem fieldL_le (o : List F) (key : ByteArray) : fieldL o key ≤ o.length := by
  unfold fieldL
  exact (List.takeWhile_prefix _).length_le
theorem fieldL_at {o : List F} {key : ByteArray} {j : Nat} (hj : j ≤ o.length) (h : ∀ i (hi : i < o.length), i < j → keyLt o[i].key key = true) (h2 : ∀ hj' : j < o.length, keyLt o[j].key key = false) : fieldL o key = j := by
  unfold fieldL
  induction o generalizing j with
  | nil => simp at hj; simp [hj]
  | cons f fs ih =>
    cases j with
    | zero =>
      have := h2 (by simp)
      simp only [List.getElem_cons_zero] at this
      simp [List.takeWhile_cons, this]
    | succ j =>
      have h0 := h 0 (by simp) (by omega)
      simp only [List.getElem_cons_zero] at h0
      rw [List.takeWhile_cons, h0]
      simp only [↓reduceIte, List.length_cons]
      rw [ih (by simpa using hj) (fun i hi hij => by have := h (i + 1) (by simpa using hi) (by omega); simpa using this) (fun hj' => by have := h2 (by simpa using hj'); simpa using this)]
theorem fieldIs_some {o : List F} {key : ByteArray} {j : Nat} (hj : j < o.length) (h : fieldL o key = j) : fieldIs o key = (o[j].key.toList == key.toList) := by
  unfold fieldIs
  rw [h]
  simp [hj]
theorem fieldIs_none {o : List F} {key : ByteArray} (h : fieldL o key = o.length) : fieldIs o key = false := by
  unfold fieldIs
  rw [h]
  simp

/-- A field's cells in sight. -/
theorem EField_cells {w : World} {S : BS} {cs : List Value} {f : F} (h : EField.rd w S cs f) : ∃ lv ov, cs = [.string f.key, U8 f.v.kind, .int .i64 f.v.n, .string f.v.s, lv, ov] ∧ (∃ A c, lv = .slice A f.v.l.length c) ∧ (∃ A c, ov = .slice A f.v.o.length c) ∧ VAt w S (.agg #[U8 f.v.kind, .int .i64 f.v.n, .string f.v.s, lv, ov]) f.v := by
  obtain ⟨c0, rfl, h0⟩ := rdF_iff.1 h
  obtain ⟨lv, ov, rfl, h1, h2⟩ := rdV_iff.1 h0
  obtain ⟨A, c, rfl, _⟩ := h1.shape
  obtain ⟨A', c', rfl, _⟩ := h2.shape
  exact ⟨_, _, rfl, ⟨_, _, rfl⟩, ⟨_, _, rfl⟩, ⟨_, _, rfl, h1, h2⟩⟩

end Go.Proofs.Ytioplgfopillnaa

/- Steps into a value; what stands at a path; what is put there. No program. -/
set_option linter.unusedSimpArgs false
set_option linter.unusedVariables false
namespace Go.Proofs.Ytioplgfopillnaa
open Go.RowKit
set_option linter.unusedVariables false

/-- A step. -/
structure St where
  list : Bool
  i : Int
  key : ByteArray
def ESt : El St := { size := 3, rd := fun _ _ cs s => cs = [.bool s.list, .int .i64 s.i, .string s.key] }
theorem ESt.ok : ESt.Ok where
  pos := by decide
  len := fun h => by subst h; rfl
  one := fun h u hu => by
    subst h
    simp at hu
    rcases hu with rfl | rfl | rfl <;> rfl
  keep := fun h _ _ => h
  more := fun h _ => h
/-- Where a step leads. -/
def stepV (v : V) (s : St) : Option Loc :=
  if s.list then (if v.kind = 4 ∧ 0 ≤ s.i ∧ s.i < v.l.length then some (.l s.i.toNat) else none)
  else if v.kind = 5 ∧ fieldIs v.o s.key = true then some (.o (fieldL v.o s.key)) else none
/-- What stands at a path. -/
def getV : V → List St → Option V
  | v, [] => some v
  | v, s :: p => match stepV v s with
    | none => none
    | some loc => match v.child? loc with
      | none => none
      | some y => getV y p
/-- What is put there. -/
def putV : V → List St → V → Option V
  | _, [], x => some x
  | v, s :: p, x => match stepV v s with
    | none => none
    | some loc => match v.child? loc with
      | none => none
      | some y => (putV y p x).map (v.put loc)
theorem fieldIs_lt {o : List F} {key : ByteArray} (h : fieldIs o key = true) : fieldL o key < o.length := by
  unfold fieldIs at h
  rcases Nat.lt_or_ge (fieldL o key) o.length with h1 | h1
  · exact h1
  · rw [List.getElem?_eq_none h1] at h; cases h
theorem child_l (v : V) (i : Nat) : v.child? (.l i) = v.l[i]? := by cases v; rfl
theorem child_o (v : V) (i : Nat) : v.child? (.o i) = v.o[i]?.map F.v := by cases v; rfl
theorem stepV_l {v : V} {s : St} (hl : s.list = true) : stepV v s = if v.kind = 4 ∧ 0 ≤ s.i ∧ s.i < v.l.length then some (.l s.i.toNat) else none := by unfold stepV; rw [if_pos hl]
theorem stepV_o {v : V} {s : St} (hl : s.list = false) : stepV v s = if v.kind = 5 ∧ fieldIs v.o s.key = true then some (.o (fieldL v.o s.key)) else none := by unfold stepV; rw [if_neg (by simp [hl])]
theorem stepV_child {v : V} {s : St} {loc : Loc} (h : stepV v s = some loc) : ∃ y, v.child? loc = some y := by
  by_cases hl : s.list = true
  · rw [stepV_l hl] at h
    by_cases h1 : v.kind = 4 ∧ 0 ≤ s.i ∧ s.i < v.l.length
    · rw [if_pos h1] at h
      obtain rfl := Option.some.inj h
      exact ⟨v.l[s.i.toNat]'(by omega), by rw [child_l, List.getElem?_eq_getElem]⟩
    · rw [if_neg h1] at h; cases h
  · rw [stepV_o (by simpa using hl)] at h
    by_cases h1 : v.kind = 5 ∧ fieldIs v.o s.key = true
    · rw [if_pos h1] at h
      obtain rfl := Option.some.inj h
      have := fieldIs_lt h1.2
      exact ⟨(v.o[fieldL v.o s.key]).v, by simp [child_o, this]⟩
    · rw [if_neg h1] at h; cases h
theorem getV_snoc : ∀ (p : List St) (v : V) (s : St), getV v (p ++ [s]) = (getV v p).bind fun x => (stepV x s).bind fun loc => x.child? loc
  | [], v, s => by
    simp only [List.nil_append, getV, Option.bind_some]
    cases stepV v s with
    | none => rfl
    | some loc => simp only [Option.bind_some]; cases v.child? loc <;> rfl
  | t :: p, v, s => by
    simp only [List.cons_append, getV]
    cases stepV v t with
    | none => rfl
    | some loc =>
      simp only
      cases v.child? loc with
      | none => rfl
      | some y => exact getV_snoc p y s
theorem getV_append : ∀ (p q : List St) (v : V), getV v (p ++ q) = (getV v p).bind fun x => getV x q
  | [], q, v => by simp [getV]
  | t :: p, q, v => by
    simp only [List.cons_append, getV]
    cases stepV v t with
    | none => rfl
    | some loc =>
      simp only
      cases v.child? loc with
      | none => rfl
      | some y => exact getV_append p q y
theorem putV_append : ∀ (p q : List St) (v z : V), putV v (p ++ q) z = (getV v p).bind fun x => (putV x q z).bind fun y => putV v p y
  | [], q, v, z => by
    simp only [List.nil_append, getV, putV, Option.bind_some]
    cases putV v q z <;> rfl
  | t :: p, q, v, z => by
    simp only [List.cons_append, getV, putV]
    cases stepV v t with
    | none => rfl
    | some loc =>
      simp only
      cases v.child? loc with
      | none => rfl
      | some y =>
        simp only
        rw [putV_append p q y z]
        cases getV y p with
        | none => rfl
        | some x =>
          simp only [Option.bind_some]
          cases putV x q z with
          | none => rfl
          | some y' => rfl
theorem putV_one {v : V} {s : St} {loc : Loc} (h : stepV v s = some loc) (x : V) : putV v [s] x = some (v.put loc x) := by
  obtain ⟨y, hy⟩ := stepV_child h
  simp only [putV, h, hy, Option.map_some]
/-- Where something stands, something can be put. -/
theorem putV_some : ∀ (p : List St) (v x : V), (getV v p).isSome = (putV v p x).isSome
  | [], v, x => rfl
  | t :: p, v, x => by
    simp only [getV, putV]
    cases stepV v t with
    | none => rfl
    | some loc =>
      simp only
      cases v.child? loc with
      | none => rfl
      | some y => simp only [Option.isSome_map]; exact putV_some p y x
end Go.Proofs.Ytioplgfopillnaa

/- The reference's Same, at like values. -/
set_option linter.unusedSimpArgs false
set_option linter.unusedVariables false
namespace Go.Proofs.Ytioplgfopillnaa
open Go.RowKit
set_option linter.unusedVariables false

theorem blk_pair (w : World) (T : TypeId) (a b : Array Value) : Blk ((w.alloc (.cells a T)).alloc (.cells b T)) w.heap.size T a ∧ Blk ((w.alloc (.cells a T)).alloc (.cells b T)) (w.heap.size + 1) T b ∧ Ext w ((w.alloc (.cells a T)).alloc (.cells b T)) := by
  have := Blk.new (w.alloc (.cells a T)) T b
  rw [World.size_alloc] at this
  exact ⟨(Blk.new _ _ _).alloc _, this, ((Keep.refl _ _).alloc _).alloc _⟩
set_option maxHeartbeats 6400000 in
theorem same_eq : ∀ (m : Nat) (x : V), x.size ≤ m → ∀ (u v : Value) (S1 S2 : BS) (w : World), VAt w S1 u x → VAt w S2 v x →
    Calls Try.prog 23 #[u, v] w fun e w' => e = .returned (.bool true) ∧ Ext w w' := by
  intro m
  induction m with
  | zero => intro x h; have := x.size_pos; omega
  | succ m ih =>
  intro x hsz u v S1 S2 w hu hv
  have hlen := V.size_eq x
  have HIH := hid ih
  have HLM := hid (fun (y : V) (hy : y ∈ x.l) => (by have := V.sizes_mem hy; omega : y.size ≤ m))
  have HOM := hid (fun (y : F) (hy : y ∈ x.o) => (by have := F.sizes_mem hy; omega : y.v.size ≤ m))
  clear ih hlen hsz
  obtain ⟨l1, o1, rfl, h1, h2⟩ := hu
  obtain ⟨l2, o2, rfl, h3, h4⟩ := hv
  obtain ⟨A1, c1, rfl, hc1, hm1⟩ := h1.shape
  obtain ⟨A2, c2, rfl, hc2, hm2⟩ := h2.shape
  obtain ⟨A3, c3, rfl, _, _⟩ := h3.shape
  obtain ⟨A4, c4, rfl, _, _⟩ := h4.shape
  unfold maxLen at hm1 hm2
  generalize x.kind = k at *
  generalize x.n = n at *
  generalize x.s = s at *
  generalize x.l = xs at *
  generalize x.o = xo at *
  have H1 := hid h1
  have H2 := hid h2
  have H3 := hid h3
  have H4 := hid h4
  obtain ⟨hb0, hb1, hE⟩ := blk_pair w TVAL #[U8 k, .int .i64 n, .string s, .slice A1 xs.length c1, .slice A2 xo.length c2] #[U8 k, .int .i64 n, .string s, .slice A3 xs.length c3, .slice A4 xo.length c4]
  have HB0 := hid hb0
  have HB1 := hid hb1
  have HE := hid hE
  clear h1 h2 h3 h4 hb0 hb1 hE
  have e1 : ((k.toNat : Int) == k.toNat) = true := by simp
  have e2 : (n == n) = true := by simp
  have e4 : ((xs.length : Int) == xs.length) = true := by simp
  have e5 : ((xo.length : Int) == xo.length) = true := by simp
  go_enter Try.func23, Try.ntmps23
  go_wp2_with fail
  generalize ((w.alloc (.cells #[U8 k, .int .i64 n, .string s, .slice A1 xs.length c1, .slice A2 xo.length c2] TVAL)).alloc (.cells #[U8 k, .int .i64 n, .string s, .slice A3 xs.length c3, .slice A4 xo.length c4] TVAL)) = w0 at *
  go_loopw [5] (fun y wr => ∃ (j : Nat), j ≤ xs.length ∧ y = .int .i64 j ∧ Ext w0 wr) (fun y _ => xs.length - (intOf y).toNat)
  case atStart => exact ⟨0, by omega, rfl, Keep.refl _ _⟩
  case round =>
    obtain ⟨j, hj, rfl, hr⟩ := hrel
    have hx := HB0.out.keep hr id
    have hy := HB1.out.keep hr id
    have x3 : wr.cell? ⟨w.heap.size, 3, none⟩ = some (.slice A1 xs.length c1) := hx.cell 3
    have x4 : wr.cell? ⟨w.heap.size, 4, none⟩ = some (.slice A2 xo.length c2) := hx.cell 4
    have y3 : wr.cell? ⟨w.heap.size + 1, 3, none⟩ = some (.slice A3 xs.length c3) := hy.cell 3
    have y4 : wr.cell? ⟨w.heap.size + 1, 4, none⟩ = some (.slice A4 xo.length c4) := hy.cell 4
    have HR := hid (HE.out.ext hr)
    have HR0 := hid hr
    clear hx hy hr
    by_cases hlt : j < xs.length
    · obtain ⟨b1, f1, d1, rfl, hb1, hs1, hr1, hc1'⟩ := (H1.out.ext EVal.ok HR.out).at_ EVal.ok hlt
      obtain ⟨b2, f2, d2, rfl, hb2, hs2, hr2, hc2'⟩ := (H3.out.ext EVal.ok HR.out).at_ EVal.ok hlt
      obtain ⟨B1, n1, z1, B2, n2, z2, rfl, _, _, hva⟩ := EVal_cells hr1
      obtain ⟨B3, n3, z3, B4, n4, z4, rfl, _, _, hvb⟩ := EVal_cells hr2
      have p0 := hc1' 0 _ rfl
      have p1 := hc1' 1 _ rfl
      have p2 := hc1' 2 _ rfl
      have p3 := hc1' 3 _ rfl
      have p4 := hc1' 4 _ rfl
      have q0 := hc2' 0 _ rfl
      have q1 := hc2' 1 _ rfl
      have q2 := hc2' 2 _ rfl
      have q3 := hc2' 3 _ rfl
      have q4 := hc2' 4 _ rfl
      have e5' : EVal.size = 5 := rfl
      simp only [e5', Nat.add_zero] at p0 p1 p2 p3 p4 q0 q1 q2 q3 q4
      have HVA := hid hva
      have HVB := hid hvb
      have HXM := hid (HLM.out xs[j] (List.getElem_mem hlt))
      have hjX : (j : Int) < xs.length := by omega
      clear hc1' hc2' hr1 hr2 hva hvb e5' hs1 hs2 hb1 hb2
      generalize xs[j] = y at *
      go_wp2_with fail
      refine wp_region_grow (specOf [(10, fun v _ => v = .bool true)]) (fun w' => Ext wr w') ?_ (stableC_ext _) (by kernel_rfl) (by kernel_rfl) (Keep.drew (Keep.refl _ _)) ?_
      · exact stable_cons (fun v w w' h he => h) stable_nil
      iterate 10
        (try simp only [Act.put, List.setIfInBounds_toArray, List.set_cons_zero, List.set_cons_succ])
        refine grow_run rfl rfl rfl ?_
        apply Exists.intro
        refine ⟨fun w' hC hK => ?_, ?_⟩
        · have x3 := (hC.cell (lt_of_cell x3) id).trans x3
          have y3 := (hC.cell (lt_of_cell y3) id).trans y3
          have p0 := (hC.cell (lt_of_cell p0) id).trans p0
          have p1 := (hC.cell (lt_of_cell p1) id).trans p1
          have p2 := (hC.cell (lt_of_cell p2) id).trans p2
          have p3 := (hC.cell (lt_of_cell p3) id).trans p3
          have p4 := (hC.cell (lt_of_cell p4) id).trans p4
          have q0 := (hC.cell (lt_of_cell q0) id).trans q0
          have q1 := (hC.cell (lt_of_cell q1) id).trans q1
          have q2 := (hC.cell (lt_of_cell q2) id).trans q2
          have q3 := (hC.cell (lt_of_cell q3) id).trans q3
          have q4 := (hC.cell (lt_of_cell q4) id).trans q4
          go_simp
          rfl
      (try simp only [Act.put, List.setIfInBounds_toArray, List.set_cons_zero, List.set_cons_succ])
      refine grow_eff rfl rfl rfl (fun w' hC hK => ?_) (fun v10 hv10 => ?_)
      · unfold growAt
        go_simp
        refine grow_call ((HIH.out y HXM.out _ _ _ _ w' (HVA.out.ext hC) (HVB.out.ext hC)).mono ?_)
        rintro e w'' ⟨rfl, h1⟩
        exact ⟨_, rfl, h1, rfl⟩
      obtain ⟨_, _, rfl⟩ := hv10.head
      iterate 1
        (try simp only [Act.put, List.setIfInBounds_toArray, List.set_cons_zero, List.set_cons_succ])
        refine grow_run rfl rfl rfl ?_
        apply Exists.intro
        refine ⟨fun w' hC hK => ?_, ?_⟩
        · go_simp
          rfl
      refine grow_nil fun w4 hC _ => ?_
      have HC4 := hid (HR0.out.ext (show Ext wr w4 from hC))
      clear hC hv10 x3 x4 y3 y4 p0 p1 p2 p3 p4 q0 q1 q2 q3 q4 HVA HVB
      go_wp2
      exact ⟨⟨j + 1, by omega, by go_num, HC4.out⟩, by simp [intOf]; omega⟩
    · obtain rfl : j = xs.length := by omega
      go_wp2_with fail
      clear x3 x4 y3 y4
      go_loopw [7] (fun y wr => ∃ (j : Nat), j ≤ xo.length ∧ y = .int .i64 j ∧ Ext w0 wr) (fun y _ => xo.length - (intOf y).toNat)
      case atStart => exact ⟨0, by omega, rfl, HR0.out⟩
      case round =>
        clear HR HR0
        obtain ⟨j, hj, rfl, hr⟩ := hrel
        have hx := HB0.out.keep hr id
        have hy := HB1.out.keep hr id
        have x4 : wr.cell? ⟨w.heap.size, 4, none⟩ = some (.slice A2 xo.length c2) := hx.cell 4
        have y4 : wr.cell? ⟨w.heap.size + 1, 4, none⟩ = some (.slice A4 xo.length c4) := hy.cell 4
        have HR := hid (HE.out.ext hr)
        have HR0 := hid hr
        clear hx hy hr
        by_cases hlt : j < xo.length
        · obtain ⟨b1, f1, d1, rfl, hb1, hs1, hr1, hc1'⟩ := (H2.out.ext EField.ok HR.out).at_ EField.ok hlt
          obtain ⟨b2, f2, d2, rfl, hb2, hs2, hr2, hc2'⟩ := (H4.out.ext EField.ok HR.out).at_ EField.ok hlt
          obtain ⟨lv1, ov1, rfl, ⟨D1, g1, rfl⟩, ⟨D2, g2, rfl⟩, hva⟩ := EField_cells hr1
          obtain ⟨lv2, ov2, rfl, ⟨D3, g3, rfl⟩, ⟨D4, g4, rfl⟩, hvb⟩ := EField_cells hr2
          have p0 := hc1' 0 _ rfl
          have p1 := hc1' 1 _ rfl
          have p2 := hc1' 2 _ rfl
          have p3 := hc1' 3 _ rfl
          have p4 := hc1' 4 _ rfl
          have p5 := hc1' 5 _ rfl
          have q0 := hc2' 0 _ rfl
          have q1 := hc2' 1 _ rfl
          have q2 := hc2' 2 _ rfl
          have q3 := hc2' 3 _ rfl
          have q4 := hc2' 4 _ rfl
          have q5 := hc2' 5 _ rfl
          have e5' : EField.size = 6 := rfl
          simp only [e5', Nat.add_zero] at p0 p1 p2 p3 p4 p5 q0 q1 q2 q3 q4 q5
          have HVA := hid hva
          have HVB := hid hvb
          have HXM := hid (HOM.out xo[j] (List.getElem_mem hlt))
          have hjX : (j : Int) < xo.length := by omega
          clear hc1' hc2' hr1 hr2 hva hvb e5' hs1 hs2 hb1 hb2
          generalize xo[j] = y at *
          go_wp2_with fail
          refine wp_region_grow (specOf [(12, fun v _ => v = .bool true)]) (fun w' => Ext wr w') ?_ (stableC_ext _) (by kernel_rfl) (by kernel_rfl) (Keep.drew (Keep.refl _ _)) ?_
          · exact stable_cons (fun v w w' h he => h) stable_nil
          iterate 12
            (try simp only [Act.put, List.setIfInBounds_toArray, List.set_cons_zero, List.set_cons_succ])
            refine grow_run rfl rfl rfl ?_
            apply Exists.intro
            refine ⟨fun w' hC hK => ?_, ?_⟩
            · have x4 := (hC.cell (lt_of_cell x4) id).trans x4
              have y4 := (hC.cell (lt_of_cell y4) id).trans y4
              have p1 := (hC.cell (lt_of_cell p1) id).trans p1
              have p2 := (hC.cell (lt_of_cell p2) id).trans p2
              have p3 := (hC.cell (lt_of_cell p3) id).trans p3
              have p4 := (hC.cell (lt_of_cell p4) id).trans p4
              have p5 := (hC.cell (lt_of_cell p5) id).trans p5
              have q1 := (hC.cell (lt_of_cell q1) id).trans q1
              have q2 := (hC.cell (lt_of_cell q2) id).trans q2
              have q3 := (hC.cell (lt_of_cell q3) id).trans q3
              have q4 := (hC.cell (lt_of_cell q4) id).trans q4
              have q5 := (hC.cell (lt_of_cell q5) id).trans q5
              go_simp
              rfl
          (try simp only [Act.put, List.setIfInBounds_toArray, List.set_cons_zero, List.set_cons_succ])
          refine grow_eff rfl rfl rfl (fun w' hC hK => ?_) (fun v10 hv10 => ?_)
          · unfold growAt
            go_simp
            refine grow_call ((HIH.out y.v HXM.out _ _ _ _ w' (HVA.out.ext hC) (HVB.out.ext hC)).mono ?_)
            rintro e w'' ⟨rfl, h1⟩
            exact ⟨_, rfl, h1, rfl⟩
          obtain ⟨_, _, rfl⟩ := hv10.head
          iterate 1
            (try simp only [Act.put, List.setIfInBounds_toArray, List.set_cons_zero, List.set_cons_succ])
            refine grow_run rfl rfl rfl ?_
            apply Exists.intro
            refine ⟨fun w' hC hK => ?_, ?_⟩
            · go_simp
              rfl
          refine grow_nil fun w4 hC _ => ?_
          have hC : Ext wr w4 := hC
          have HC4 := hid (HR0.out.ext hC)
          replace x4 := (hC.cell (lt_of_cell x4) id).trans x4
          replace y4 := (hC.cell (lt_of_cell y4) id).trans y4
          replace p0 := (hC.cell (lt_of_cell p0) id).trans p0
          replace q0 := (hC.cell (lt_of_cell q0) id).trans q0
          clear hC hv10 p1 p2 p3 p4 p5 q1 q2 q3 q4 q5 HVA HVB
          go_wp2_with fail
          refine wp_region_grow (specOf []) (fun w' => Ext w4 w') stable_nil (stableC_ext _) (by kernel_rfl) (by kernel_rfl) (Keep.drew (Keep.refl _ _)) ?_
          iterate 17
            (try simp only [Act.put, List.setIfInBounds_toArray, List.set_cons_zero, List.set_cons_succ])
            refine grow_run rfl rfl rfl ?_
            apply Exists.intro
            refine ⟨fun w' hC hK => ?_, ?_⟩
            · have x4 := (hC.cell (lt_of_cell x4) id).trans x4
              have y4 := (hC.cell (lt_of_cell y4) id).trans y4
              have p0 := (hC.cell (lt_of_cell p0) id).trans p0
              have q0 := (hC.cell (lt_of_cell q0) id).trans q0
              go_simp
              rfl
          refine grow_nil fun w5 hC _ => ?_
          have HC5 := hid (HC4.out.ext (show Ext w4 w5 from hC))
          clear hC x4 y4 p0 q0
          go_wp2
          exact ⟨⟨j + 1, by omega, by go_num, HC5.out⟩, by simp [intOf]; omega⟩
        · obtain rfl : j = xo.length := by omega
          go_wp2_with fail
          go_ret
          exact ⟨rfl, HR.out⟩
end Go.Proofs.Ytioplgfopillnaa

/- append to a row of the call's own: the source's row and its data told apart. No program. -/
set_option linter.unusedSimpArgs false
set_option linter.unusedVariables false
namespace Go.Proofs.Ytioplgfopillnaa
open Go.RowKit

section
variable {P : Program} {α : Type} {E : El α} {w : World} {S S2 : BS} {base : Nat} {t T : TypeId} {v y : Value} {xs ys : List α} {bytes : Nat}

/-- 'append(own, ys...)'. -/
theorem own_append2 {SR : BS} {ds : List Value} (hE : E.Ok) (ht : TyInfo P t T E.size bytes) (ty : TypeId) (hown : Own E w base T S v xs) (hsr : RowS w SR E.size y ys.length ds) (hds : Cells E w S2 ds ys)
    (hg : ∀ g, v.ownBlock = some g → ¬ S g ∧ ¬ S2 g)
    (h63 : xs.length + ys.length ≤ maxLen) (hbytes : (xs.length + ys.length) * bytes ≤ 140737488355328) (hbase : base ≤ w.heap.size) :
    ∃ v' w', (Builtin.append_ #[t, t] ty #[v, y]).run P w = .ok v' w' ∧ Own E w' base T (fun k => S k ∨ S2 k) v' (xs ++ ys) ∧ w.grownBy w' v.ownBlock ∧ (v'.ownBlock = v.ownBlock ∨ v'.ownBlock = some w.heap.size) := by
  obtain ⟨i, z, hi, hz, hsize, hby, hzs⟩ := ht.info
  obtain ⟨cs, hrow, hcs⟩ := hown.toRow hE
  obtain ⟨hl, A, c, rfl, _, _, hcell⟩ := hsr
  have hfin : ∀ v' w', w'.ownsRow base T E.size v' (xs.length + ys.length) (cs ++ ds) → w.grownBy w' v.ownBlock → Own E w' base T (fun k => S k ∨ S2 k) v' (xs ++ ys) := by
    intro v' w' h1 h2
    rw [← List.length_append] at h1
    refine Own.ofRow h1 ?_
    have hk : Keep (fun k => v.ownBlock = some k) w w' := (Keep.refl _ _).grown h2 (fun k e _ => e)
    refine Cells.append ?_ ?_
    · exact (hcs.keep hE hk fun k hs e => (hg k e).1 hs).more hE fun _ _ h => .inl h
    · cases hb : v.ownBlock with
      | none =>
        rw [hb] at hk
        exact (hds.keep hE hk fun k _ e => by cases e).more hE fun _ _ h => .inr h
      | some g =>
        rw [hb] at hk
        exact (hds.keep hE hk fun k hs e => (hg g hb).2 (by injection e with e; subst e; exact hs)).more hE fun _ _ h => .inr h
  rcases A with _ | ad
  · have hm : ys = [] := by
      rcases Nat.eq_zero_or_pos ys.length with h0 | h0
      · exact List.eq_nil_of_length_eq_zero h0
      · obtain ⟨b, off, h, _⟩ := hcell h0
        cases h
    subst hm
    have hn : ds = [] := List.eq_nil_of_length_eq_zero (by simpa using hl)
    subst hn
    have hrun : (Builtin.append_ #[t, t] ty #[v, .slice none 0 c]).run P w = .ok v w := by
      rcases hrow.2 with ⟨rfl, h0⟩ | ⟨g, cap, cur, rfl, _, _, hnc, _⟩
      · simp [Builtin.append_, run_underlying ht.under, sizeOf, typeInfo, hi, Builtin.lenOf, Builtin.firstCells]
      · simp [Builtin.append_, run_underlying ht.under, sizeOf, typeInfo, hi, Builtin.lenOf, Builtin.firstCells, hnc, storeCells]
    exact ⟨v, w, hrun, hfin v w (by simpa using hrow) (World.grownBy.refl w _), World.grownBy.refl w _, .inl rfl⟩
  · have hcells : ∀ j u, ds[j]? = some u → w.cell? (ad.add j) = some u := by
      intro j u hu
      rcases Nat.eq_zero_or_pos ys.length with h0 | h0
      · have hn : ds = [] := List.eq_nil_of_length_eq_zero (by simp [hl, h0])
        subst hn
        simp at hu
      · obtain ⟨b, off, e, _, _, hc⟩ := hcell h0
        injection e with e
        subst e
        have := hc j u hu
        unfold Addr.add
        split
        · rename_i h0; subst h0; simpa using this
        · exact this
    obtain ⟨v', w', hrun, h2, h3, _, h5⟩ := run_append_own_at (P := P) w base t ty T i z E.size bytes ht.under hi hz hsize hby hzs hE.pos v xs.length cs hrow ad ys.length c ds hl hcells (hds.one hE) h63 hbytes hbase
    exact ⟨v', w', hrun, hfin v' w' h2 h3, h3, h5⟩

/-- In a walk: 'append(own, ys...)', the source apart from the own block. -/
theorem wpList_own_append2 (w : World) {SR : BS} {ds : List Value} {ops : Array Oper} {rest : List Oper} {o : Oper} {a : Act} {Q : Exit → Act → World → Prop} (hgd : o.guard = none) (s x : Operand)
    (hE : E.Ok) (ht : TyInfo P t T E.size bytes) (ho : o.op = .call { callee := .builtin .append, args := #[s, x], argTypes := #[t, t] })
    (hs : a.eval s = v) (hx : a.eval x = y) (hown : Own E w base T S v xs) (hsr : RowS w SR E.size y ys.length ds) (hds : Cells E w S2 ds ys) (hg : ∀ g, v.ownBlock = some g → ¬ S g ∧ ¬ S2 g)
    (hbytes : (xs.length + ys.length) * bytes ≤ 140737488355328) (h63 : xs.length + ys.length ≤ maxLen) (hbase : base ≤ w.heap.size)
    (h : ∀ v' w', Own E w' base T (fun k => S k ∨ S2 k) v' (xs ++ ys) → Keep (fun k => v.ownBlock = some k) w w' → (v'.ownBlock = v.ownBlock ∨ v'.ownBlock = some w.heap.size) → wpList P ops Q rest (a.put o.dst v') w') : wpList P ops Q (o :: rest) a w := by
  obtain ⟨v', w', hrun, h1, h2, h3⟩ := own_append2 (P := P) (w := w) hE ht o.type hown hsr hds hg h63 hbytes hbase
  refine wpList_plain hgd fun K hK => ?_
  unfold Oper.wp execOp
  simp only [ho, resolve, invoke, builtin, Sem.run_bind, Sem.run_pure, Result.andThen_ok, List.map_toArray, List.map_cons, List.map_nil, hs, hx, hrun]
  exact hK _ _ (h v' w' h1 ((Keep.refl _ _).grown h2 (fun k e _ => e)) h3)
end
end Go.Proofs.Ytioplgfopillnaa
