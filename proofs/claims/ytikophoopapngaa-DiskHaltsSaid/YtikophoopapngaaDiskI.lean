/- Package disk: Cut, Drop by contract. -/
import Derived.Test.YtikophoopapngaaDiskH
import Derived.Test.YtikophoopapngaaCuts
import Derived.BigQuiet
import Derived.Lib.MinMax
set_option linter.unusedSimpArgs false
set_option linter.unusedVariables false
namespace Go.Proofs.Ytikophoopapngaa
open Go.RowKit Go.Maps
set_option linter.unusedVariables false

/-- The front of a row, of that capacity. -/
theorem BytesS.front {w : World} {S : BS} {A : Option Addr} {k : Nat} {l : List UInt8} (h : BytesS w S (.slice A l.length k) l) {n : Nat} (hn : n ≤ l.length) : BytesS w S (.slice A n n) (l.take n) := by
  obtain ⟨cs, hr, hc⟩ := Sl.front EU8.ok h hn
  have hl : (l.take n).length = n := by rw [List.length_take]; omega
  rw [hl] at hr
  obtain ⟨h0, A', c', e, h1, h2, h3⟩ := hr
  injection e with e1 _ e3
  subst e1 e3
  refine ⟨cs, ?_, hc⟩
  rw [hl]
  exact ⟨h0, A, n, rfl, Nat.le_refl _, by omega, h3⟩
/-- 's[:n:n]' of bytes. -/
theorem run_front3 (n c m : Nat) (A : Option Addr) (h2 : m ≤ c) (w : World) :
    (Instr.sliceAt 23 (.slice A n c) none (some (.int .i64 (m : Int))) (some (.int .i64 (m : Int)))).run Try.prog w = .ok (.slice A m m) w := by
  have hu : Try.prog.underlying 23 = some (.slice (Try.prog.elem 23)) := by rw [elem_of ty_u8.under]; exact ty_u8.under
  rw [run_sliceAt_slice (h := hu), run_slice_hm (ht := hu), elem_of ty_u8.under, size_of (E := EU8) ty_u8]
  · have e : (fun x : Addr => x.add 0) = id := by funext x; simp [Addr.add]
    simp [Result.andThen, sliced, e]
  all_goals omega
def cutC (n : Nat) (c : DC) : DC := { c with b := c.b.take n, l := min c.l n }
/-- What the closure of Cut does to a file. -/
def Cut1Is (w : World) (b : Nat) (A : Option Addr) (l n : Nat) (e : Ending) (w' : World) : Prop := e = .returned (.int .u16 0) ∧ Keep (· = b) w w' ∧ Blk w' b TFIL #[.slice A n n, .int .i64 ((min l n : Nat) : Int)]
set_option maxHeartbeats 3200000 in
theorem cut1_ok (w : World) (b g n l m k : Nat) (A : Option Addr) (hb : Blk w b TFIL #[.slice A m k, .int .i64 (l : Int)]) (hn : w.cell? ⟨g, 0, none⟩ = some (.int .i64 (n : Int))) (hng : g ≠ b) (hnl : n ≤ m) (hmk : m ≤ k) :
    Calls Try.prog 33 #[.pointer (some ⟨b, 0, none⟩), .pointer (some ⟨g, 0, none⟩)] w (Cut1Is w b A l n) := by
  have HB := hid hb
  have HN := hid hn
  have HNG := hid hng
  have hz := hb.frozen
  have q0 := hb.cell 0
  have q1 := hb.cell 1
  simp only [List.getElem?_toArray, List.getElem?_cons_succ, List.getElem?_cons_zero] at q0 q1
  have h1X : decide ((n : Int) < 0) = false := by simp
  have h2X : decide (m < n) = false := by simp; omega
  have hcut := run_front3 m k n A (by omega)
  have HMN := hid (show ((min l n : Nat) : Int) = min (l : Int) (n : Int) by omega)
  clear hb hng
  go_enter Try.func33, Try.ntmps33
  go_wp2_with fail
  go_quiet (fail)
  clear hmk
  have HW1 := hid (show Ext w (w.drewN nq) from (Keep.refl _ _).drewN _)
  have HB1 := hid (HB.out.keep HW1.out id)
  have hn1 := (HW1.out.cell (lt_of_cell hn) id).trans hn
  have q0' := (HW1.out.cell (lt_of_cell q0) id).trans q0
  generalize w.drewN nq = w1 at *
  clear hz q0 q1 hn
  go_wp2_with fail
  refine wp_region_parts [] [0, 1, 2, 3, 4, 5, 6, 7, 8, 9] [10] (specOf []) (fun w' => Ext w1 w') stable_nil (stableC_ext _) (by kernel_rfl) (by kernel_rfl) (Keep.drew (Keep.refl _ _)) ?_
  refine pure_nil ?_
  iterate 10
    (try simp only [Act.put, List.setIfInBounds_toArray, List.set_cons_zero, List.set_cons_succ])
    refine growP_run rfl rfl rfl ?_
    apply Exists.intro
    refine ⟨fun w' hC hK => ?_, ?_⟩
    · have hn1 := (hC.cell (lt_of_cell hn1) id).trans hn1
      have q0' := (hC.cell (lt_of_cell q0') id).trans q0'
      go_simp
      rfl
  refine growP_nil fun w2 hC hK => ?_
  have hC : Ext w1 w2 := hC
  have hb2 := HB1.out.keep hC id
  have q0 := hb2.cell 0
  have hz := hb2.frozen
  simp only [List.getElem?_toArray, List.getElem?_cons_succ, List.getElem?_cons_zero] at q0
  have HB2 := hid hb2
  have HC2 := hid hC
  have HN2 := hid ((hC.cell (lt_of_cell hn1) id).trans hn1)
  clear hK hC hb2 hn1 q0' hcut
  change wpList _ _ _ (_ :: []) _ _
  (try simp only [Act.put, List.setIfInBounds_toArray, List.set_cons_zero, List.set_cons_succ])
  go_wp2_with fail
  refine NoPanic.normal ?_
  have hks : Keep (· = b) w2 (w2.setCell ⟨b, 0, none⟩ (.slice A n n)) := (Keep.refl _ _).set1 0 _
  have hb3 : Blk (w2.setCell ⟨b, 0, none⟩ (.slice A n n)) b TFIL #[.slice A n n, .int .i64 (l : Int)] := by have := HB2.out.set_ 0 (.slice A n n); simpa using this
  have hn3 := (hks.cell (lt_of_cell HN2.out) HNG.out).trans HN2.out
  have q1 := hb3.cell 1
  simp only [List.getElem?_toArray, List.getElem?_cons_succ, List.getElem?_cons_zero] at q1
  have HB3 := hid hb3
  have HK3 := hid (show Keep (· = b) w (w2.setCell ⟨b, 0, none⟩ (.slice A n n)) from (((Keep.refl (· = b) w).ext HW1.out).ext HC2.out).trans hks fun _ _ e => e)
  generalize w2.setCell ⟨b, 0, none⟩ (.slice A n n) = w3 at *
  clear hks hb3 hz q0
  go_wp2_with fail
  refine wp_region_parts [] [0, 1, 2, 3, 4, 5, 6, 7, 8] [9] (specOf []) (fun w' => Ext w3 w') stable_nil (stableC_ext _) (by kernel_rfl) (by kernel_rfl) (Keep.drew (Keep.refl _ _)) ?_
  refine pure_nil ?_
  iterate 9
    (try simp only [Act.put, List.setIfInBounds_toArray, List.set_cons_zero, List.set_cons_succ])
    refine growP_run rfl rfl rfl ?_
    apply Exists.intro
    refine ⟨fun w' hC hK => ?_, ?_⟩
    · have hn3 := (hC.cell (lt_of_cell hn3) id).trans hn3
      have q1 := (hC.cell (lt_of_cell q1) id).trans q1
      go_simp
      rfl
  refine growP_nil fun w4 hC hK => ?_
  have hC : Ext w3 w4 := hC
  have hb4 := HB3.out.keep hC id
  have q1' := hb4.cell 1
  have hz := hb4.frozen
  simp only [List.getElem?_toArray, List.getElem?_cons_succ, List.getElem?_cons_zero] at q1'
  have HB4 := hid hb4
  have HK4 := hid (HK3.out.ext hC)
  clear hK hC hb4 hn3 q1
  change wpList _ _ _ (_ :: []) _ _
  (try simp only [Act.put, List.setIfInBounds_toArray, List.set_cons_zero, List.set_cons_succ])
  go_wp2_with fail
  refine NoPanic.normal ?_
  go_wp2
  go_ret
  refine ⟨rfl, HK4.out.trans ((Keep.refl (· = b) w4).set1 1 _) fun _ _ e => e, ?_⟩
  have := HB4.out.set_ 1 (.int .i64 (min (l : Int) (n : Int)))
  rw [HMN.out]
  simpa using this

set_option maxHeartbeats 3200000 in
theorem cut1_no (w : World) (b g l m k : Nat) (n : Int) (A : Option Addr) (hb : Blk w b TFIL #[.slice A m k, .int .i64 (l : Int)]) (hn : w.cell? ⟨g, 0, none⟩ = some (.int .i64 n)) (hno : n < 0 ∨ (m : Int) < n) :
    Calls Try.prog 33 #[.pointer (some ⟨b, 0, none⟩), .pointer (some ⟨g, 0, none⟩)] w fun e w' => e = .returned (.int .u16 1) ∧ Ext w w' := by
  have q0 := hb.cell 0
  simp only [List.getElem?_toArray, List.getElem?_cons_succ, List.getElem?_cons_zero] at q0
  clear hb
  by_cases h1 : n < 0
  · have h1X : decide (n < 0) = true := by simp; omega
    clear hno h1
    go_enter Try.func33, Try.ntmps33
    go_wp2_with fail
    go_quiet (fail)
    go_wp2
    go_ret
    exact ⟨rfl, (Keep.refl _ _).drewN _⟩
  · have h1X : decide (n < 0) = false := by simp; omega
    have h2 : (m : Int) < n := by omega
    have h2X : decide ((m : Int) < n) = true := by simp; omega
    clear hno h1 h2
    go_enter Try.func33, Try.ntmps33
    go_wp2_with fail
    go_quiet (fail)
    go_wp2
    go_ret
    exact ⟨rfl, (Keep.refl _ _).drewN _⟩

/-- Cut's answer; the files then. -/
def cutR (cs : List DC) (s : DSt) (name : List UInt8) (n : Int) : Int × List DC := if goesC s.left = false then (130, cs) else match findC cs name with
  | none => (131, cs)
  | some c => if n < 0 ∨ (c.b.length : Int) < n then (1, cs) else (0, updC (cutC n.toNat) cs name)
def CutIs (w : World) (B : BS) (d : Nat) (cs : List DC) (s : DSt) (name : List UInt8) (n : Int) (e : Ending) (w' : World) : Prop :=
  e = .returned (.int .u16 (cutR cs s name n).1) ∧ DiskIs w' B d (cutR cs s name n).2 { s with left := leftC s.left } ∧ Keep B w w'
set_option maxHeartbeats 1600000 in
theorem disk_cut (w : World) (B : BS) (d : Nat) (cs : List DC) (s : DSt) (name : ByteArray) (n : Int) (h : DiskIs w B d cs s) (hz : name.size ≤ maxLen) :
    Calls Try.prog 15 #[.pointer (some ⟨d, 0, none⟩), .string name, .int .i64 n] w (CutIs w B d cs s name.data.toList n) := by
  obtain ⟨h0, m, fs, hd, rfl⟩ := h
  obtain ⟨w0, hw0⟩ : ∃ w0, w.alloc (.cells #[.int .i64 n] 3) = w0 := ⟨_, rfl⟩
  have hE : Ext w w0 := by rw [← hw0]; exact (Keep.refl _ _).alloc _
  have hbx : Blk w0 w.heap.size 3 #[.int .i64 n] := by rw [← hw0]; exact Blk.new _ _ _
  have hd0 := hd.keep hE fun _ _ x => x
  have hkd : ∀ {wz : World}, Keep (· = d) w0 wz → Keep B w wz := fun hk => ((Keep.refl B w).ext hE).trans hk fun k _ e => by subst e; exact hd.own
  have hgd : w.heap.size ≠ d := by have := hd.blk.lt; omega
  have HW := hid (disk_with w0 B d m fs s name 33 #[.pointer (some ⟨w.heap.size, 0, none⟩)] (CutIs w B d (fs.map DF.c) s name.data.toList n) hd0 h0.left hz (fun _ _ => by go_simp)
    (fun wz hg hz hk => by
      have e : cutR (fs.map DF.c) s name.data.toList n = (130, fs.map DF.c) := by rw [cutR, if_pos hg]
      exact ⟨by rw [e], by rw [e]; exact ⟨h0.left', m, fs, hz, rfl⟩, hkd hk⟩)
    (fun wz hg ho hz hk => by
      have e : cutR (fs.map DF.c) s name.data.toList n = (131, fs.map DF.c) := by rw [cutR, if_neg (by simp [hg]), findC_map, ho]; rfl
      exact ⟨by rw [e], by rw [e]; exact ⟨h0.left', m, fs, hz, rfl⟩, hkd hk⟩)
    (fun wz f hg ho hz hk => by
      have hmem := (findF_some ho).1
      have hf := hz.files f hmem
      obtain ⟨A, k, _, _, hs, hle, hk1, _, hb⟩ := hf.2.cells
      have hbz := hbx.keep hk hgd
      have hn : wz.cell? ⟨w.heap.size, 0, none⟩ = some (.int .i64 n) := hbz.cell 0
      have hgb : w.heap.size ≠ f.blk := by have := (hd.files f hmem).2.lt; omega
      have e0 : cutR (fs.map DF.c) s name.data.toList n = if n < 0 ∨ (f.c.b.length : Int) < n then (1, fs.map DF.c) else (0, updC (cutC n.toNat) (fs.map DF.c) name.data.toList) := by rw [cutR, if_neg (by simp [hg]), findC_map, ho]; rfl
      by_cases hno : n < 0 ∨ (f.c.b.length : Int) < n
      · rw [if_pos hno] at e0
        refine (cut1_no wz f.blk w.heap.size f.c.l _ k n A hb hn hno).mono ?_
        rintro e1 w' ⟨rfl, hE1⟩
        refine ⟨1, rfl, by rw [e0], ?_, (hkd hk).ext hE1⟩
        rw [e0]
        exact ⟨h0.left', m, fs, hz.keep hE1 fun _ _ x => x, rfl⟩
      · rw [if_neg hno] at e0
        obtain ⟨n', rfl⟩ : ∃ n' : Nat, n = n' := ⟨n.toNat, by omega⟩
        rw [Int.toNat_natCast] at e0
        have hnl : n' ≤ f.c.b.length := by omega
        refine (cut1_ok wz f.blk w.heap.size n' f.c.l _ k A hb hn hgb hnl hk1).mono ?_
        rintro e1 w' ⟨rfl, hk2, hb2⟩
        refine ⟨0, rfl, by rw [e0], ?_, (hkd hk).trans hk2 fun k _ e => by subst e; exact hf.1⟩
        rw [e0]
        refine ⟨upd_ok h0 (fun _ => rfl) (fun c => by show (c.b.take n').length ≤ _; rw [List.length_take]; omega), m, _, hz.setFile ho hk2 (g := cutC n') (fun _ => rfl) hb2 (hs.front hnl) ?_, updF_c _ _ _⟩
        show min f.c.l n' ≤ (f.c.b.take n').length
        rw [List.length_take]; omega))
  clear h0 hd hz hkd hE hbx hd0 hgd
  go_enter Try.func15, Try.ntmps15
  go_wp2_with fail
  refine HW.out.mono ?_
  rintro e w2 h2
  obtain ⟨r, hr⟩ : ∃ r, (cutR (fs.map DF.c) s name.data.toList n).1 = r := ⟨_, rfl⟩
  have HR := hid hr
  have HX := hid h2
  have h2 := h2.1
  rw [hr] at h2
  subst h2
  clear hr hw0
  go_wp2
  go_ret
  exact ⟨by rw [HR.out]; rfl, HX.out.2⟩
end Go.Proofs.Ytikophoopapngaa
