/- Package disk: Drop, Halt, Halted, Full by contract. -/
import Derived.Test.YtikophoopapngaaDiskJ
import Derived.Test.YtikophoopapngaaLawAid0
set_option linter.unusedSimpArgs false
set_option linter.unusedVariables false
namespace Go.Proofs.Ytikophoopapngaa
open Go.RowKit Go.Maps
set_option linter.unusedVariables false

def delC (cs : List DC) (name : List UInt8) : List DC := cs.filter fun c => !(c.name == name)
theorem delF_c (fs : List DF) (name : List UInt8) : (delF fs name).map DF.c = delC (fs.map DF.c) name := by
  unfold delF delC
  rw [List.filter_map]
  rfl
theorem usedC_del (cs : List DC) (name : List UInt8) : usedC (delC cs name) ≤ usedC cs := by
  unfold delC
  induction cs with
  | nil => exact Nat.le_refl _
  | cons x r ih =>
    rw [List.filter_cons]
    split
    · rw [usedC_cons, usedC_cons]; omega
    · rw [usedC_cons]; omega
theorem DOk.setLeft {cs : List DC} {s : DSt} (h : DOk cs s) {x : Int} (hx : -1 ≤ x ∧ x ≤ 9223372036854775807) : DOk cs { s with left := x } := ⟨h.room, h.used, h.many, h.names, hx⟩
theorem DOk.setFull {cs : List DC} {s : DSt} (h : DOk cs s) (x : Bool) : DOk cs { s with full := x } := ⟨h.room, h.used, h.many, h.names, h.left⟩
theorem DOk.del {cs : List DC} {s : DSt} (h : DOk cs s) (name : List UInt8) : DOk (delC cs name) s :=
  ⟨h.room, Nat.le_trans (usedC_del cs name) h.used, Nat.le_trans (List.length_filter_le _ _) h.many, fun c hc => h.names c ((List.mem_filter.1 hc).1), h.left⟩

def HaltIs (w : World) (B : BS) (d : Nat) (cs : List DC) (s : DSt) (n : Int) (e : Ending) (w' : World) : Prop := e = .returned (.tuple #[]) ∧ DiskIs w' B d cs { s with left := max n (-1) } ∧ Keep B w w'
set_option maxHeartbeats 1600000 in
theorem disk_halt (w : World) (B : BS) (d : Nat) (cs : List DC) (s : DSt) (n : Int) (hn : (Lit.int .i64 n).wf = true) (h : DiskIs w B d cs s) :
    Calls Try.prog 22 #[.pointer (some ⟨d, 0, none⟩), .int .i64 n] w (HaltIs w B d cs s n) := by
  obtain ⟨h0, m, fs, hd, rfl⟩ := h
  obtain ⟨_, _, _, c3⟩ := hd.cells
  have hz := hd.blk.frozen 3
  have HD := hid hd
  have HO := hid (h0.setLeft (x := max n (-1)) (by have := bounds_int hn; omega))
  clear h0 hd hn
  go_enter Try.func22, Try.ntmps22
  go_wp2_with fail
  refine (i64_store d 3 s.left (max n (-1)) w c3 hz).mono ?_
  rintro e w1 ⟨rfl, rfl⟩
  have HK := hid (show Keep B w (w.setCell ⟨d, 3, none⟩ (.int .i64 (max n (-1)))) from ((Keep.refl (· = d) w).set1 3 _).mono fun k _ e => by subst e; exact HD.out.own)
  clear c3 hz
  go_wp2
  go_end0
  exact ⟨rfl, ⟨HO.out, m, fs, HD.out.setLeft _, rfl⟩, HK.out⟩
set_option maxHeartbeats 1600000 in
theorem disk_halted (w : World) (B : BS) (d : Nat) (cs : List DC) (s : DSt) (h : DiskIs w B d cs s) :
    Calls Try.prog 24 #[.pointer (some ⟨d, 0, none⟩)] w fun e w' => e = .returned (.bool (s.left == 0)) ∧ w = w' := by
  obtain ⟨h0, m, fs, hd, rfl⟩ := h
  obtain ⟨_, _, _, c3⟩ := hd.cells
  clear h0 hd
  go_enter Try.func24, Try.ntmps24
  go_wp2_with fail
  refine (i64_load d 3 s.left w c3).mono ?_
  rintro e w1 ⟨rfl, rfl⟩
  go_wp2
  go_ret
  exact ⟨rfl, rfl⟩
set_option maxHeartbeats 1600000 in
theorem disk_full (w : World) (B : BS) (d : Nat) (cs : List DC) (s : DSt) (on : Bool) (h : DiskIs w B d cs s) :
    Calls Try.prog 41 #[.pointer (some ⟨d, 0, none⟩), .bool on] w fun e w' => e = .returned (.tuple #[]) ∧ DiskIs w' B d cs { s with full := on } ∧ Keep B w w' := by
  obtain ⟨h0, m, fs, hd, rfl⟩ := h
  obtain ⟨_, _, c2, _⟩ := hd.cells
  have hz := hd.blk.frozen
  have HD := hid hd
  have HO := hid (h0.setFull on)
  clear h0 hd
  go_enter Try.func41, Try.ntmps41
  go_wp2
  go_end0
  exact ⟨rfl, ⟨HO.out, m, fs, HD.out.setFull on, rfl⟩, ((Keep.refl (· = d) w).set1 2 _).mono fun k _ e => by subst e; exact HD.out.own⟩

/-- A file is taken out of the map. -/
theorem DiskAt.dropFile {w w' : World} {B : BS} {d m : Nat} {fs : List DF} {s : DSt} {name : List UInt8} (h : DiskAt w B d m fs s) (hm : MapIs w' m (delF fs name)) (hk : Keep (· = m) w w') : DiskAt w' B d m (delF fs name) s := by
  have hsub : ∀ f ∈ delF fs name, f ∈ fs := fun f hf => (List.mem_filter.1 hf).1
  refine ⟨h.own, h.ownm, h.blk.keep hk h.ne, hm, fun f hf => ⟨(h.files f (hsub f hf)).1, ?_⟩, h.apart.filter _⟩
  exact ((h.files f (hsub f hf)).2.keep hk (h.ned (hsub f hf)).2 fun k hk => hk.2.2.1).more fun k _ h1 => ⟨h1.1, h1.2.1, h1.2.2.1, fun g hg => h1.2.2.2 g (hsub g hg)⟩
theorem wpList_delete_files {w : World} {ops : Array Oper} {rest : List Oper} {o : Oper} {a : Act} {Q : Exit → Act → World → Prop} (hg : o.guard = none) (mo x : Operand)
    (hop : o.op = Op.call { callee := Callee.builtin Builtin.delete, args := #[mo, x], argTypes := #[TMAP, TSTR] }) (m : Nat) (fs : List DF) (hm : a.eval mo = .map (some m)) (h : MapIs w m fs) (name : ByteArray) (hx : a.eval x = .string name) (hn : name.size ≤ maxLen)
    (hK : ∀ w', MapIs w' m (delF fs name.data.toList) → Keep (· = m) w w' → wpList Try.prog ops Q rest (a.put o.dst (.tuple #[])) w') : wpList Try.prog ops Q (o :: rest) a w := by
  refine wpList_plain hg fun K' hK' => ?_
  obtain ⟨w', hrun, r1, r2⟩ := h.drop hn o.type
  unfold Oper.wp
  simp [execOp, hop, resolve, invoke, builtin, hm, hx, hrun, Result.andThen]
  exact hK' _ _ (hK w' r1 r2)
set_option maxHeartbeats 1600000 in
theorem drop1_ok (w : World) (B : BS) (d m : Nat) (fs : List DF) (s : DSt) (name : ByteArray) (b g1 g2 : Nat) (h : DiskAt w B d m fs s) (hn : name.size ≤ maxLen) (h1 : w.cell? ⟨g1, 0, none⟩ = some (.pointer (some ⟨d, 0, none⟩))) (h2 : w.cell? ⟨g2, 0, none⟩ = some (.string name)) :
    Calls Try.prog 48 #[.pointer (some ⟨b, 0, none⟩), .pointer (some ⟨g1, 0, none⟩), .pointer (some ⟨g2, 0, none⟩)] w fun e w' => e = .returned (.int .u16 0) ∧ DiskAt w' B d m (delF fs name.data.toList) s ∧ Keep (· = m) w w' := by
  obtain ⟨c0, _, _, _⟩ := h.cells
  have HD := hid h
  have HN := hid hn
  clear h hn
  go_enter Try.func48, Try.ntmps48
  go_wp2_with fail
  refine wp_region_parts [] [0, 1, 2, 3, 4] [5] (specOf []) (fun w' => Ext w w') stable_nil (stableC_ext _) (by kernel_rfl) (by kernel_rfl) (Keep.drew (Keep.refl _ _)) ?_
  refine pure_nil ?_
  iterate 5
    (try simp only [Act.put, List.setIfInBounds_toArray, List.set_cons_zero, List.set_cons_succ])
    refine growP_run rfl rfl rfl ?_
    apply Exists.intro
    refine ⟨fun w' hC hK => ?_, ?_⟩
    · have h1 := (hC.cell (lt_of_cell h1) id).trans h1
      have h2 := (hC.cell (lt_of_cell h2) id).trans h2
      have c0 := (hC.cell (lt_of_cell c0) id).trans c0
      go_simp
      rfl
  refine growP_nil fun w2 hC hK => ?_
  have hC : Ext w w2 := hC
  have HDC := hid (HD.out.keep hC fun _ _ x => x)
  have HC := hid hC
  clear hK hC h1 h2 c0
  change wpList _ _ _ (_ :: []) _ _
  (try simp only [Act.put, List.setIfInBounds_toArray, List.set_cons_zero, List.set_cons_succ])
  refine wpList_delete_files rfl _ _ rfl m fs rfl HDC.out.map name rfl HN.out ?_
  intro w3 hm3 hk3
  have HD3 := hid (HDC.out.dropFile hm3 hk3)
  have HK3 := hid (((Keep.refl (· = m) w).ext HC.out).trans hk3 fun _ _ e => e)
  clear hm3 hk3
  (try simp only [Act.put, List.setIfInBounds_toArray, List.set_cons_zero, List.set_cons_succ])
  go_wp2_with fail
  refine NoPanic.normal ?_
  go_wp2
  go_ret
  exact ⟨rfl, HD3.out, HK3.out⟩

def dropR (cs : List DC) (s : DSt) (name : List UInt8) : Int × List DC := if goesC s.left = false then (130, cs) else if hasC cs name then (0, delC cs name) else (131, cs)
def DropIs (w : World) (B : BS) (d : Nat) (cs : List DC) (s : DSt) (name : List UInt8) (e : Ending) (w' : World) : Prop :=
  e = .returned (.int .u16 (dropR cs s name).1) ∧ DiskIs w' B d (dropR cs s name).2 { s with left := leftC s.left } ∧ Keep B w w'
set_option maxHeartbeats 1600000 in
theorem disk_drop (w : World) (B : BS) (d : Nat) (cs : List DC) (s : DSt) (name : ByteArray) (h : DiskIs w B d cs s) (hz : name.size ≤ maxLen) :
    Calls Try.prog 23 #[.pointer (some ⟨d, 0, none⟩), .string name] w (DropIs w B d cs s name.data.toList) := by
  obtain ⟨h0, m, fs, hd, rfl⟩ := h
  obtain ⟨w0, hw0⟩ : ∃ w0, (w.alloc (.cells #[.pointer (some ⟨d, 0, none⟩)] 25)).alloc (.cells #[.string name] 9) = w0 := ⟨_, rfl⟩
  have hE : Ext w w0 := by rw [← hw0]; exact ((Keep.refl _ _).alloc _).alloc _
  have hb1 : Blk w0 w.heap.size 25 #[.pointer (some ⟨d, 0, none⟩)] := by rw [← hw0]; exact (Blk.new _ _ _).alloc _
  have hb2 : Blk w0 (w.heap.size + 1) 9 #[.string name] := by
    have := Blk.new (w.alloc (.cells #[.pointer (some ⟨d, 0, none⟩)] 25)) 9 #[.string name]
    rw [World.size_alloc] at this
    rw [← hw0]; exact this
  have hd0 := hd.keep hE fun _ _ x => x
  have hkd : ∀ {wz : World}, Keep (· = d) w0 wz → Keep B w wz := fun hk => ((Keep.refl B w).ext hE).trans hk fun k _ e => by subst e; exact hd.own
  have hg1 : w.heap.size ≠ d := by have := hd.blk.lt; omega
  have hg2 : w.heap.size + 1 ≠ d := by have := hd.blk.lt; omega
  have HC := hid (show w0.cell? ⟨w.heap.size, 0, none⟩ = some (.pointer (some ⟨d, 0, none⟩)) ∧ w0.cell? ⟨w.heap.size + 1, 0, none⟩ = some (.string name) from ⟨hb1.cell 0, hb2.cell 0⟩)
  have HW := hid (disk_with w0 B d m fs s name 48 #[.pointer (some ⟨w.heap.size, 0, none⟩), .pointer (some ⟨w.heap.size + 1, 0, none⟩)] (DropIs w B d (fs.map DF.c) s name.data.toList) hd0 h0.left hz (fun _ _ => by go_simp)
    (fun wz hg hz hk => by
      have e : dropR (fs.map DF.c) s name.data.toList = (130, fs.map DF.c) := by rw [dropR, if_pos hg]
      exact ⟨by rw [e], by rw [e]; exact ⟨h0.left', m, fs, hz, rfl⟩, hkd hk⟩)
    (fun wz hg ho hz hk => by
      have e : dropR (fs.map DF.c) s name.data.toList = (131, fs.map DF.c) := by rw [dropR, if_neg (by simp [hg]), if_neg (by rw [hasC_map, ho]; simp)]
      exact ⟨by rw [e], by rw [e]; exact ⟨h0.left', m, fs, hz, rfl⟩, hkd hk⟩)
    (fun wz f hg ho hdz hk => by
      have e : dropR (fs.map DF.c) s name.data.toList = (0, delC (fs.map DF.c) name.data.toList) := by rw [dropR, if_neg (by simp [hg]), if_pos (by rw [hasC_map, ho]; rfl)]
      refine (drop1_ok wz B d m fs _ name f.blk _ _ hdz hz ((hb1.keep hk hg1).cell 0) ((hb2.keep hk hg2).cell 0)).mono ?_
      rintro e1 w' ⟨rfl, hd3, hk3⟩
      refine ⟨0, rfl, by rw [e], ?_, (hkd hk).trans hk3 fun k _ e => by subst e; exact hdz.ownm⟩
      rw [e]
      exact ⟨h0.left'.del _, m, _, hd3, delF_c _ _⟩))
  clear h0 hd hz hkd hE hb1 hb2 hd0 hg1 hg2
  obtain ⟨q0, q1⟩ := HC.out
  go_enter Try.func23, Try.ntmps23
  go_wp2_with fail
  refine HW.out.mono ?_
  rintro e w2 h2
  obtain ⟨r, hr⟩ : ∃ r, (dropR (fs.map DF.c) s name.data.toList).1 = r := ⟨_, rfl⟩
  have HR := hid hr
  have HX := hid h2
  have h2 := h2.1
  rw [hr] at h2
  subst h2
  clear hr hw0 q0 q1
  go_wp2
  go_ret
  exact ⟨by rw [HR.out]; rfl, HX.out.2⟩
end Go.Proofs.Ytikophoopapngaa
