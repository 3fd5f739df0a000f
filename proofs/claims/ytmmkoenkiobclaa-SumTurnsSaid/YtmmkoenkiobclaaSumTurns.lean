/- Turning bits turns the sum alike, whatever stands there: the walk. -/
import Derived.Test.YtmmkoenkiobclaaKnown
import Derived.Test.YtmmkoenkiobclaaGrow
import Derived.Test.YtmmkoenkiobclaaLawAid
import Derived.Test.YtmmkoenkiobclaaOpen
namespace Go.Proofs.Ytmmkoenkiobclaa
open Go.RowKit
set_option linter.unusedVariables false

theorem run_min (a b : Nat) : ∀ w, (Builtin.min_ #[3, 3] 3 #[.int .i64 (a : Int), .int .i64 (b : Int)]).run Try.prog w = .ok (.int .i64 ((min a b : Nat) : Int)) w := by
  intro w
  rw [run_min_int2, show ((min a b : Nat) : Int) = if (b : Int) < a then (b : Int) else (a : Int) from by split <;> omega]

theorem turns_same (l m : List UInt8) (k : Nat) (x : UInt8) (hk : k < l.length) (hm : m.length = l.length) :
    (bits .xor .u32 ((sumOf l).toNat : Int) ((sumOf (turned l k x)).toNat : Int) == bits .xor .u32 ((sumOf m).toNat : Int) ((sumOf (turned m k x)).toNat : Int)) = true := by
  rw [beq_iff_eq, u32_xor_nat _ _ (BitVec.isLt _) (BitVec.isLt _), u32_xor_nat _ _ (BitVec.isLt _) (BitVec.isLt _), ← BitVec.toNat_xor, ← BitVec.toNat_xor, crc_turned_two l m k x hk hm]

set_option maxHeartbeats 1600000 in
theorem turns_walk (va : Value) (la : List UInt8) (vb : Value) (lb : List UInt8) (at_ : Int) (x : Int) (w : World) (ha : Bytes w w.heap.size va la) (hb : Bytes w w.heap.size vb lb) (hi : (Lit.int .i64 at_).wf = true) (hj : (Lit.int .u8 x).wf = true) :
    Calls Try.prog 3 #[va, vb, .int .i64 at_, .int .u8 x] w fun e w' => e = .returned (.bool true) ∧ Below w.heap.size w w' := by
  obtain ⟨x0, rfl⟩ := u8_of_wf hj
  obtain ⟨A, c, rfl, hlc, hcm, _⟩ := ha.open_
  obtain ⟨A', c', rfl, hlc', hcm', _⟩ := hb.open_
  unfold maxLen at hcm hcm'
  by_cases h1 : la.length ≤ 1500 ∧ lb.length ≤ 1500
  · obtain ⟨h1, h2⟩ := h1
    have hmin := run_min la.length lb.length
    obtain ⟨n, hn⟩ : ∃ n, n = min la.length lb.length := ⟨_, rfl⟩
    rw [← hn] at hmin
    have hna : n ≤ la.length := by omega
    have hnb : n ≤ lb.length := by omega
    clear hn
    rcases Nat.eq_zero_or_pos n with h0 | h0
    · subst h0
      go_enter Try.func3, Try.ntmps3
      go_wp2_with fail
      refine (known_any w).mono ?_
      rintro e w1 ⟨rfl, hE1⟩
      go_wp2
      go_ret
      exact ⟨rfl, hE1.toBelow⟩
    · have h4 : (((n : Nat) : Int) == 0) = false := by rw [beq_eq_false_iff_ne]; omega
      obtain ⟨i0, hmi⟩ := run_max0 at_
      obtain ⟨k, hk, hk'⟩ : ∃ k : Nat, (i0 : Int) % (n : Int) = k ∧ k < n := ⟨i0 % n, by simp, Nat.mod_lt _ h0⟩
      have hnc : n ≤ c := by omega
      have hnc' : n ≤ c' := by omega
      go_enter Try.func3, Try.ntmps3
      go_wp2_with fail
      refine (known_any w).mono ?_
      rintro e w1 ⟨rfl, hE1⟩
      have haf0 := ha.front hna
      have hbf0 := hb.front hnb
      have haf := (ha.ext hE1).front hna
      have hbf := (hb.ext hE1).front hnb
      have hla : (la.take n).length = n := by simp; omega
      have hlb : (lb.take n).length = n := by simp; omega
      generalize la.take n = l at *
      generalize lb.take n = m at *
      go_wp2_with (at_builtin; refine wpList_append_u8 _ rfl (.tmp 37) (.tmp 40) rfl w1.heap.size (.slice none 0 0) [] rfl (World.ownsRow_nil _ _ _ _) _ _ l rfl haf (by simp; omega) (Nat.le_refl _) ?_)
      intro v2 w2 hown hgr _
      have hE2 : Ext w1 w2 := (Keep.refl _ _).grown hgr (by simp [Value.ownBlock])
      have hz2 := hE2.size
      clear hgr
      go_wp2_with (at_builtin; refine wpList_append_u8 _ rfl (.tmp 42) (.tmp 45) rfl w2.heap.size (.slice none 0 0) [] rfl (World.ownsRow_nil _ _ _ _) _ _ m rfl (hbf.ext hE2) (by simp; omega) (Nat.le_refl _) ?_)
      intro v3 w3 hown3 hgr _
      have hE3 : Ext w2 w3 := (Keep.refl _ _).grown hgr (by simp [Value.ownBlock])
      have hz3 := hE3.size
      clear hgr
      obtain ⟨g, cap, rfl, hg, hglt, hncap, hcapm⟩ := own_form hown h0
      obtain ⟨g', cap', rfl, hg', hglt', hncap', hcapm'⟩ := own_form hown3 h0
      unfold maxLen at hcapm hcapm'
      have hown2 : w3.ownsRow w1.heap.size 5 1 (.slice (some ⟨g, 0, none⟩) n cap) n (l.map U8) := by
        obtain ⟨q1, q2⟩ := hown
        refine ⟨q1, ?_⟩
        rcases q2 with q2 | ⟨q3, q4, q5, q6, q7, q8, q9⟩
        · exact .inl q2
        · exact .inr ⟨q3, q4, q5, q6, q7, (hE3.block q3 (Blk.lt (t := 5) (cs := q5) q8) id).trans q8, q9⟩
      clear hown
      have hx1 := xor_u8 (l[k]'(by omega)) x0
      have hx2 := xor_u8 (m[k]'(by omega)) x0
      have t1 := turned_cells l k x0 (by omega)
      have t2 := turned_cells m k x0 (by omega)
      obtain ⟨x1, e1⟩ : ∃ x1, x1 = (l[k]'(by omega)) ^^^ x0 := ⟨_, rfl⟩
      obtain ⟨x2, e2⟩ : ∃ x1, x1 = (m[k]'(by omega)) ^^^ x0 := ⟨_, rfl⟩
      rw [← e1] at hx1 t1
      rw [← e2] at hx2 t2
      clear e1 e2
      have hc1 := hown2.cellAt k (by omega)
      have hf1 := hown2.frozenAt k
      rw [show (l.map U8)[k]? = some (U8 (l[k]'(by omega))) from by simp [show k < l.length from by omega]] at hc1
      have hc2 := hown3.cellAt k (by omega)
      have hf2 := hown3.frozenAt k
      rw [show (m.map U8)[k]? = some (U8 (m[k]'(by omega))) from by simp [show k < m.length from by omega]] at hc2
      obtain ⟨hs1, _⟩ := hown2.stored k (U8 x1)
      have hne : g ≠ g' := by omega
      have hown3' : (w3.setCell ⟨g, k, none⟩ (U8 x1)).ownsRow w2.heap.size 5 1 (.slice (some ⟨g', 0, none⟩) n cap') n (m.map U8) := ownsRow_setCell_other hown3 (a := ⟨g, k, none⟩) (by simp [Value.ownBlock]; omega) _
      have hc2' : (w3.setCell ⟨g, k, none⟩ (U8 x1)).cell? ⟨g', k, none⟩ = _ := (World.cell?_setCell_other _ ⟨g, k, none⟩ ⟨g', k, none⟩ _ (by simp [hne])).trans hc2
      have hf2' : (w3.setCell ⟨g, k, none⟩ (U8 x1)).frozen? ⟨g', k, none⟩ = false := hown3'.frozenAt k
      obtain ⟨hs2, _⟩ := hown3'.stored k (U8 x2)
      have hs1' : ((w3.setCell ⟨g, k, none⟩ (U8 x1)).setCell ⟨g', k, none⟩ (U8 x2)).ownsRow w1.heap.size 5 1 (.slice (some ⟨g, 0, none⟩) n cap) n ((l.map U8).set k (U8 x1)) := ownsRow_setCell_other hs1 (a := ⟨g', k, none⟩) (by simp [Value.ownBlock]; omega) _
      rw [t1] at hs1'
      rw [t2] at hs2
      have hE4 : Ext w ((w3.setCell ⟨g, k, none⟩ (U8 x1)).setCell ⟨g', k, none⟩ (U8 x2)) := (((hE1.ext hE2).ext hE3).setAt (fun h => by have := hE1.size; omega) _ _).setAt (fun h => by have := hE1.size; omega) _ _
      have hz4 := hE4.size
      clear hs1 hown3' hown3 hown2 hc2 hf2 t1 t2
      go_wp2_with fail
      clear hx1 hx2 hc1 hf1 hc2' hf2' hk hmi hmin
      have b1 : Bytes _ _ _ _ := Row.of_own hs1'
      have b2 : Bytes _ _ _ _ := Row.of_own hs2
      generalize (w3.setCell ⟨g, k, none⟩ (U8 x1)).setCell ⟨g', k, none⟩ (U8 x2) = w4 at *
      have haf4 : Bytes w4 w4.heap.size (.slice A n c) l := (haf0.ext hE4).more hz4
      have hbf4 : Bytes w4 w4.heap.size (.slice A' n c') m := (hbf0.ext hE4).more hz4
      clear hs1' hs2 hE3 hE2 hne
      refine wp_region_grow (specOf [(3, fun v w' => ∃ B, Bytess w' B v [l]), (4, fun v _ => v = U32 (sumOf l)), (6, fun v w' => ∃ B, Bytess w' B v [turned l k x0]), (7, fun v _ => v = U32 (sumOf (turned l k x0))),
          (12, fun v w' => ∃ B, Bytess w' B v [m]), (13, fun v _ => v = U32 (sumOf m)), (15, fun v w' => ∃ B, Bytess w' B v [turned m k x0]), (16, fun v _ => v = U32 (sumOf (turned m k x0)))])
        (fun w' => Ext w4 w') ?_ (stableC_ext _) (by kernel_rfl) (by kernel_rfl) (Keep.drew (Keep.refl _ _)) ?_
      · exact stable_cons (fun v w w' ⟨B, h⟩ he => ⟨B, h.ext he⟩) (stable_cons (fun _ _ _ h _ => h) (stable_cons (fun v w w' ⟨B, h⟩ he => ⟨B, h.ext he⟩) (stable_cons (fun _ _ _ h _ => h)
          (stable_cons (fun v w w' ⟨B, h⟩ he => ⟨B, h.ext he⟩) (stable_cons (fun _ _ _ h _ => h) (stable_cons (fun v w w' ⟨B, h⟩ he => ⟨B, h.ext he⟩) (stable_cons (fun _ _ _ h _ => h) stable_nil)))))))
      iterate 3
        (try simp only [Act.put, List.setIfInBounds_toArray, List.set_cons_zero, List.set_cons_succ])
        refine grow_run rfl rfl rfl ?_
        apply Exists.intro
        refine ⟨fun w' hC hK => ?_, ?_⟩
        · go_simp
          rfl
      simp only [Act.put, List.setIfInBounds_toArray, List.set_cons_zero, List.set_cons_succ]
      refine grow_eff rfl rfl rfl (fun w' hC hK => ?_) (fun u1 hu1 => ?_)
      · unfold growAt
        go_simp
        exact ⟨(Keep.refl _ _).alloc _, w'.heap.size + 1, Bytess.one (Row.new (l := [_]) (by omega) (by simp [maxLen])) ((haf4.ext (hC.alloc _)).more (by have := hC.size; omega))⟩
      simp only [Act.put, List.setIfInBounds_toArray, List.set_cons_zero, List.set_cons_succ]
      refine grow_eff rfl rfl rfl (fun w' hC hK => ?_) (fun u2 hu2 => ?_)
      · unfold growAt
        go_simp
        obtain ⟨B, hb⟩ := hK.get (i := 3) List.mem_cons_self (by kernel_rfl)
        exact grow_call ((sum_any _ _ _ _ hb).mono fun e w'' ⟨h1, h2⟩ => ⟨_, h1, h2, by simp⟩)
      obtain ⟨_, _, rfl⟩ := hu2.head
      iterate 1
        (try simp only [Act.put, List.setIfInBounds_toArray, List.set_cons_zero, List.set_cons_succ])
        refine grow_run rfl rfl rfl ?_
        apply Exists.intro
        refine ⟨fun w' hC hK => ?_, ?_⟩
        · go_simp
          rfl
      simp only [Act.put, List.setIfInBounds_toArray, List.set_cons_zero, List.set_cons_succ]
      refine grow_eff rfl rfl rfl (fun w' hC hK => ?_) (fun u3 hu3 => ?_)
      · unfold growAt
        go_simp
        exact ⟨(Keep.refl _ _).alloc _, w'.heap.size + 1, Bytess.one (Row.new (l := [_]) (by omega) (by simp [maxLen])) ((b1.ext (hC.alloc _)).more (by have := hC.size; omega))⟩
      simp only [Act.put, List.setIfInBounds_toArray, List.set_cons_zero, List.set_cons_succ]
      refine grow_eff rfl rfl rfl (fun w' hC hK => ?_) (fun u4 hu4 => ?_)
      · unfold growAt
        go_simp
        obtain ⟨B, hb⟩ := hK.get (i := 6) List.mem_cons_self (by kernel_rfl)
        exact grow_call ((sum_any _ _ _ _ hb).mono fun e w'' ⟨h1, h2⟩ => ⟨_, h1, h2, by simp⟩)
      obtain ⟨_, _, rfl⟩ := hu4.head
      iterate 4
        (try simp only [Act.put, List.setIfInBounds_toArray, List.set_cons_zero, List.set_cons_succ])
        refine grow_run rfl rfl rfl ?_
        apply Exists.intro
        refine ⟨fun w' hC hK => ?_, ?_⟩
        · go_simp
          rfl
      simp only [Act.put, List.setIfInBounds_toArray, List.set_cons_zero, List.set_cons_succ]
      refine grow_eff rfl rfl rfl (fun w' hC hK => ?_) (fun u5 hu5 => ?_)
      · unfold growAt
        go_simp
        exact ⟨(Keep.refl _ _).alloc _, w'.heap.size + 1, Bytess.one (Row.new (l := [_]) (by omega) (by simp [maxLen])) ((hbf4.ext (hC.alloc _)).more (by have := hC.size; omega))⟩
      simp only [Act.put, List.setIfInBounds_toArray, List.set_cons_zero, List.set_cons_succ]
      refine grow_eff rfl rfl rfl (fun w' hC hK => ?_) (fun u6 hu6 => ?_)
      · unfold growAt
        go_simp
        obtain ⟨B, hb⟩ := hK.get (i := 12) List.mem_cons_self (by kernel_rfl)
        exact grow_call ((sum_any _ _ _ _ hb).mono fun e w'' ⟨h1, h2⟩ => ⟨_, h1, h2, by simp⟩)
      obtain ⟨_, _, rfl⟩ := hu6.head
      iterate 1
        (try simp only [Act.put, List.setIfInBounds_toArray, List.set_cons_zero, List.set_cons_succ])
        refine grow_run rfl rfl rfl ?_
        apply Exists.intro
        refine ⟨fun w' hC hK => ?_, ?_⟩
        · go_simp
          rfl
      simp only [Act.put, List.setIfInBounds_toArray, List.set_cons_zero, List.set_cons_succ]
      refine grow_eff rfl rfl rfl (fun w' hC hK => ?_) (fun u7 hu7 => ?_)
      · unfold growAt
        go_simp
        exact ⟨(Keep.refl _ _).alloc _, w'.heap.size + 1, Bytess.one (Row.new (l := [_]) (by omega) (by simp [maxLen])) ((b2.ext (hC.alloc _)).more (by have := hC.size; omega))⟩
      simp only [Act.put, List.setIfInBounds_toArray, List.set_cons_zero, List.set_cons_succ]
      refine grow_eff rfl rfl rfl (fun w' hC hK => ?_) (fun u8 hu8 => ?_)
      · unfold growAt
        go_simp
        obtain ⟨B, hb⟩ := hK.get (i := 15) List.mem_cons_self (by kernel_rfl)
        exact grow_call ((sum_any _ _ _ _ hb).mono fun e w'' ⟨h1, h2⟩ => ⟨_, h1, h2, by simp⟩)
      obtain ⟨_, _, rfl⟩ := hu8.head
      have hT := turns_same l m k x0 (by omega) (by omega)
      iterate 3
        (try simp only [Act.put, List.setIfInBounds_toArray, List.set_cons_zero, List.set_cons_succ])
        refine grow_run rfl rfl rfl ?_
        apply Exists.intro
        refine ⟨fun w' hC hK => ?_, ?_⟩
        · go_simp
          rfl
      simp only [Act.put, List.setIfInBounds_toArray, List.set_cons_zero, List.set_cons_succ]
      refine grow_nil fun w' hC _ => ?_
      have HB := hid (hE4.ext hC).toBelow
      clear hu1 hu2 hu3 hu4 hu5 hu6 hu7 hu8
      go_wp2
      all_goals
        go_ret
        exact ⟨rfl, HB.out⟩
  · rcases Nat.lt_or_ge 1500 la.length with h2 | h2
    · go_enter Try.func3, Try.ntmps3
      go_wp2_with fail
      refine (known_any w).mono ?_
      rintro e w1 ⟨rfl, hE1⟩
      go_wp2
      go_ret
      exact ⟨rfl, hE1.toBelow⟩
    · have h3 : 1500 < lb.length := by omega
      go_enter Try.func3, Try.ntmps3
      go_wp2_with fail
      refine (known_any w).mono ?_
      rintro e w1 ⟨rfl, hE1⟩
      go_wp2
      go_ret
      exact ⟨rfl, hE1.toBelow⟩
end Go.Proofs.Ytmmkoenkiobclaa
