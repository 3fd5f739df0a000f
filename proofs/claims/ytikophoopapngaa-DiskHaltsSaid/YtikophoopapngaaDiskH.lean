/- Package disk: with, Sync, Read, Halt, Halted, Full by contract. -/
import Derived.Test.YtikophoopapngaaDiskG
set_option linter.unusedSimpArgs false
set_option linter.unusedVariables false
namespace Go.Proofs.Ytikophoopapngaa
open Go.RowKit Go.Maps
set_option linter.unusedVariables false

/-- The blocks in which the files' rows may lie. -/
def rowsB (B : BS) (d m : Nat) (fs : List DF) : BS := fun k => B k ∧ k ≠ d ∧ k ≠ m ∧ ∀ g ∈ fs, k ≠ g.blk
/-- A file is another one now. -/
theorem DiskAt.setFile {w w' : World} {B : BS} {d m : Nat} {fs : List DF} {s : DSt} {name : List UInt8} (h : DiskAt w B d m fs s) {f : DF} (hf : findF fs name = some f) (hk : Keep (· = f.blk) w w') {g : DC → DC} (hg : ∀ c, (g c).name = c.name) {v : Value}
    (hb : Blk w' f.blk TFIL #[v, .int .i64 ((g f.c).l : Int)]) (hv : BytesS w (rowsB B d m fs) v (g f.c).b) (hle : (g f.c).l ≤ (g f.c).b.length) : DiskAt w' B d m (updF g fs name) s := by
  obtain ⟨hmem, hname⟩ := findF_some hf
  have hnd := h.ned hmem
  refine ⟨h.own, h.ownm, h.blk.keep hk (fun e => hnd.1 e.symm), (h.map.keep hk (fun e => hnd.2 e.symm)).upd hg name, ?_, apart_updF h.apart⟩
  intro x hx
  obtain ⟨y, hy, eb, ex⟩ := mem_updF hx
  obtain ⟨hB, hfy⟩ := h.files y hy
  refine ⟨by rw [eb]; exact hB, ?_⟩
  have hS : ∀ k, rowsB B d m fs k → B k ∧ k ≠ d ∧ k ≠ m ∧ ∀ g' ∈ updF g fs name, k ≠ g'.blk := fun k hk => ⟨hk.1, hk.2.1, hk.2.2.1, (blk_updF (p := fun b => ¬ k = b)).2 hk.2.2.2⟩
  by_cases hyn : y.c.name = name
  · have hyf : y = f := eq_of_pw h.map.names hy hmem (hyn.trans hname.symm)
    subst hyf
    rw [if_pos hyn] at ex
    subst ex
    exact ⟨v, hb, (hv.keep EU8.ok hk fun k hk e => hk.2.2.2 y hmem e).more EU8.ok fun k _ h => hS k h, hle⟩
  · rw [if_neg hyn] at ex
    subst ex
    have hne : x.blk ≠ f.blk := fun e => hyn ((eq_of_pw (p := DF.blk) h.apart hy hmem e).symm ▸ hname)
    exact (hfy.keep hk hne fun k hk e => hk.2.2.2 f hmem e).more fun k _ h => hS k h

set_option maxHeartbeats 3200000 in
/-- 'with', over whatever function value. -/
theorem disk_with (w : World) (B : BS) (d m : Nat) (fs : List DF) (s : DSt) (name : ByteArray) (F : FuncId) (cap : Array Value) (Q : Ending → World → Prop) (h : DiskAt w B d m fs s) (hl : -1 ≤ s.left ∧ s.left ≤ 9223372036854775807) (hz : name.size ≤ maxLen) (hF : ∀ (args : Array Value) (w : World), (callFunc F args).run Try.prog w = .ok (.enter F args) w)
    (h130 : ∀ wz, goesC s.left = false → DiskAt wz B d m fs { s with left := leftC s.left } → Keep (· = d) w wz → Q (.returned (.int .u16 130)) wz)
    (h131 : ∀ wz, goesC s.left = true → findF fs name.data.toList = none → DiskAt wz B d m fs { s with left := leftC s.left } → Keep (· = d) w wz → Q (.returned (.int .u16 131)) wz)
    (hdo : ∀ wz f, goesC s.left = true → findF fs name.data.toList = some f → DiskAt wz B d m fs { s with left := leftC s.left } → Keep (· = d) w wz → Calls Try.prog F (#[.pointer (some ⟨f.blk, 0, none⟩)] ++ cap) wz fun e w' => ∃ r : Int, e = .returned (.int .u16 r) ∧ Q e w') :
    Calls Try.prog 30 #[.pointer (some ⟨d, 0, none⟩), .string name, .func (.func F) #[] cap] w Q := by
  have HD := hid h
  have HL := hid hl
  have HZ := hid hz
  have H130 := hid h130
  have H131 := hid h131
  have HDO := hid hdo
  obtain ⟨g, hg⟩ : ∃ g, goesC s.left = g := ⟨_, rfl⟩
  have HG := hid hg
  clear h hl hz h130 h131 hdo hg
  go_enter Try.func30, Try.ntmps30
  go_wp2_with fail
  refine (disk_call' w B d m fs s HD.out HL.out).mono ?_
  rw [HG.out]
  rintro e wz ⟨rfl, hdz, hkz⟩
  have HDZ := hid hdz
  have HKZ := hid hkz
  clear hdz hkz
  cases g with
  | false =>
    go_wp2
    exact H130.out _ HG.out HDZ.out HKZ.out
  | true =>
    have hlook := HDZ.out.map.look (name := name) HZ.out
    obtain ⟨c0, _, _, _⟩ := HDZ.out.cells
    have hpe := eql_pfi
    obtain ⟨o, ho⟩ : ∃ o, findF fs name.data.toList = o := ⟨_, rfl⟩
    rw [ho] at hlook
    have HO := hid ho
    clear ho
    cases o with
    | none =>
      replace hlook : (Instr.lookup TMAP (.map (some m)) (.string name) false).run Try.prog wz = .ok (.pointer none) wz := hlook
      go_wp2
      exact H131.out _ HG.out HO.out HDZ.out HKZ.out
    | some f =>
      replace hlook : (Instr.lookup TMAP (.map (some m)) (.string name) false).run Try.prog wz = .ok (.pointer (some ⟨f.blk, 0, none⟩)) wz := hlook
      go_wp2_with fail
      refine (HDO.out wz f HG.out HO.out HDZ.out HKZ.out).mono ?_
      rintro e w3 ⟨r, rfl, hq⟩
      have HQ := hid hq
      clear hq hlook c0
      go_wp2
      exact HQ.out

def syncC (c : DC) : DC := { c with l := c.b.length }
/-- Sync's answer; the files then. -/
def syncR (cs : List DC) (s : DSt) (name : List UInt8) : Int × List DC := if goesC s.left = false then (130, cs) else if hasC cs name then (0, updC syncC cs name) else (131, cs)
def SyncIs (w : World) (B : BS) (d : Nat) (cs : List DC) (s : DSt) (name : List UInt8) (e : Ending) (w' : World) : Prop :=
  e = .returned (.int .u16 (syncR cs s name).1) ∧ DiskIs w' B d (syncR cs s name).2 { s with left := leftC s.left } ∧ Keep B w w'
theorem upd_ok {cs : List DC} {s : DSt} {g : DC → DC} {name : List UInt8} (h : DOk cs s) (hg : ∀ c, (g c).name = c.name) (hl : ∀ c, (g c).b.length ≤ c.b.length) : DOk (updC g cs name) { s with left := leftC s.left } := by
  refine ⟨h.room, ?_, by show (updC g cs name).length ≤ 64; unfold updC; rw [List.length_map]; exact h.many, ?_, leftC_ok h.left⟩
  · refine Nat.le_trans ?_ h.used
    show usedC (updC g cs name) ≤ usedC cs
    clear h
    unfold updC
    induction cs with
    | nil => exact Nat.le_refl _
    | cons x r ih =>
      rw [List.map_cons, usedC_cons, usedC_cons]
      have : (if x.name = name then g x else x).b.length ≤ x.b.length := by
        split
        · exact hl x
        · exact Nat.le_refl _
      omega
  · intro x hx
    obtain ⟨y, hy, e⟩ := List.mem_map.1 hx
    have := h.names y hy
    subst e
    split
    · rw [hg]; exact this
    · exact this

set_option maxHeartbeats 1600000 in
theorem sync1_ok (w : World) (S : BS) (b : Nat) (c : DC) (h : FileAt w S b c) :
    Calls Try.prog 31 #[.pointer (some ⟨b, 0, none⟩)] w fun e w' => e = .returned (.int .u16 0) ∧ w' = w.setCell ⟨b, 1, none⟩ (.int .i64 (c.b.length : Int)) := by
  obtain ⟨A, k, q0, q1, _, _, _, _, hb⟩ := h.cells
  have hz := hb.frozen
  go_enter Try.func31, Try.ntmps31
  go_wp2
  go_ret
  exact ⟨rfl, rfl⟩
set_option maxHeartbeats 1600000 in
theorem disk_sync (w : World) (B : BS) (d : Nat) (cs : List DC) (s : DSt) (name : ByteArray) (h : DiskIs w B d cs s) (hz : name.size ≤ maxLen) :
    Calls Try.prog 12 #[.pointer (some ⟨d, 0, none⟩), .string name] w (SyncIs w B d cs s name.data.toList) := by
  obtain ⟨h0, m, fs, hd, rfl⟩ := h
  have hkd : ∀ {wz : World}, Keep (· = d) w wz → Keep B w wz := fun hk => hk.mono fun k _ e => by subst e; exact hd.own
  have HW := hid (disk_with w B d m fs s name 31 #[] (SyncIs w B d (fs.map DF.c) s name.data.toList) hd h0.left hz (fun _ _ => by go_simp)
    (fun wz hg hz hk => by
      have e : syncR (fs.map DF.c) s name.data.toList = (130, fs.map DF.c) := by rw [syncR, if_pos hg]
      exact ⟨by rw [e], by rw [e]; exact ⟨h0.left', m, fs, hz, rfl⟩, hkd hk⟩)
    (fun wz hg ho hz hk => by
      have e : syncR (fs.map DF.c) s name.data.toList = (131, fs.map DF.c) := by rw [syncR, if_neg (by simp [hg]), if_neg (by rw [hasC_map, ho]; simp)]
      exact ⟨by rw [e], by rw [e]; exact ⟨h0.left', m, fs, hz, rfl⟩, hkd hk⟩)
    (fun wz f hg ho hz hk => by
      have e : syncR (fs.map DF.c) s name.data.toList = (0, updC syncC (fs.map DF.c) name.data.toList) := by rw [syncR, if_neg (by simp [hg]), if_pos (by rw [hasC_map, ho]; rfl)]
      have hf := (hz.files f (findF_some ho).1)
      refine (sync1_ok wz _ f.blk f.c hf.2).mono ?_
      rintro e1 w' ⟨rfl, rfl⟩
      obtain ⟨A, k, _, _, hs, hle, _, _, hb⟩ := hf.2.cells
      have hk2 : Keep (· = f.blk) wz (wz.setCell ⟨f.blk, 1, none⟩ (.int .i64 (f.c.b.length : Int))) := (Keep.refl _ _).set1 1 _
      refine ⟨0, rfl, by rw [e], ?_, (hkd hk).trans hk2 fun k _ e => by subst e; exact hf.1⟩
      rw [e]
      refine ⟨upd_ok h0 (fun _ => rfl) (fun _ => Nat.le_refl _), m, _, hz.setFile ho hk2 (g := syncC) (fun _ => rfl) (v := .slice A f.c.b.length k) ?_ hs (Nat.le_refl _), updF_c _ _ _⟩
      have := hb.set_ 1 (.int .i64 (f.c.b.length : Int))
      show Blk _ _ TFIL #[.slice A f.c.b.length k, .int .i64 (f.c.b.length : Int)]
      simpa using this))
  clear h0 hd hz hkd
  go_enter Try.func12, Try.ntmps12
  go_wp2_with fail
  refine HW.out.mono ?_
  rintro e w2 h2
  obtain ⟨r, hr⟩ : ∃ r, (syncR (fs.map DF.c) s name.data.toList).1 = r := ⟨_, rfl⟩
  have HR := hid hr
  have HX := hid h2
  have h2 := h2.1
  rw [hr] at h2
  subst h2
  clear hr
  go_wp2
  go_ret
  exact ⟨by rw [HR.out]; rfl, HX.out.2⟩

def findC (cs : List DC) (name : List UInt8) : Option DC := cs.find? fun c => c.name == name
theorem findC_map (fs : List DF) (n : List UInt8) : findC (fs.map DF.c) n = (findF fs n).map DF.c := by
  unfold findC findF
  rw [List.find?_map]
  rfl
/-- Read's answer. -/
def readR (cs : List DC) (name : List UInt8) : Int × List UInt8 := match findC cs name with
  | none => (131, [])
  | some c => (0, c.b)
def ReadIs (w : World) (cs : List DC) (name : List UInt8) (e : Ending) (w' : World) : Prop := ∃ A k, e = .returned (.tuple #[.slice A (readR cs name).2.length k, .int .u16 (readR cs name).1]) ∧ BytesS w' (fun q => w.heap.size ≤ q) (.slice A (readR cs name).2.length k) (readR cs name).2 ∧ Ext w w'
set_option maxHeartbeats 1600000 in
theorem disk_read (w : World) (B : BS) (d : Nat) (cs : List DC) (s : DSt) (name : ByteArray) (h : DiskIs w B d cs s) (hz : name.size ≤ maxLen) :
    Calls Try.prog 14 #[.pointer (some ⟨d, 0, none⟩), .string name] w (ReadIs w cs name.data.toList) := by
  obtain ⟨h0, m, fs, hd, rfl⟩ := h
  have hlook := hd.map.look (name := name) hz
  obtain ⟨c0, _, _, _⟩ := hd.cells
  have hpe := eql_pfi
  have HD := hid hd
  have HOK := hid h0
  obtain ⟨o, ho⟩ : ∃ o, findF fs name.data.toList = o := ⟨_, rfl⟩
  rw [ho] at hlook
  have HO := hid ho
  clear ho hd h0 hz
  cases o with
  | none =>
    replace hlook : (Instr.lookup TMAP (.map (some m)) (.string name) false).run Try.prog w = .ok (.pointer none) w := hlook
    have HR := hid (show readR (fs.map DF.c) name.data.toList = (131, []) by unfold readR; rw [findC_map, HO.out]; rfl)
    go_enter Try.func14, Try.ntmps14
    go_wp2_with fail
    refine bodyPost_ret (v := .tuple #[.slice none 0 0, .int .u16 131]) (by simp [results, Try.results14, go_sem]) rfl ?_
    unfold ReadIs
    rw [HR.out]
    exact ⟨none, 0, rfl, Sl.nil _ _, Keep.refl _ _⟩
  | some f =>
    replace hlook : (Instr.lookup TMAP (.map (some m)) (.string name) false).run Try.prog w = .ok (.pointer (some ⟨f.blk, 0, none⟩)) w := hlook
    have HR := hid (show readR (fs.map DF.c) name.data.toList = (0, f.c.b) by unfold readR; rw [findC_map, HO.out]; rfl)
    have hmem := (findF_some HO.out).1
    obtain ⟨A, k, q0, q1, hs, _, _, _, _⟩ := (HD.out.files f hmem).2.cells
    have HS := hid hs
    have HU := hid (show f.c.b.length ≤ 1048576 from Nat.le_trans (mem_usedC (List.mem_map_of_mem (f := DF.c) hmem)) (Nat.le_trans HOK.out.used HOK.out.room))
    clear hs hmem
    go_enter Try.func14, Try.ntmps14
    go_wp2_with fail
    refine (clone_bytes _ _ _ _ HS.out (by have := HU.out; omega)).mono ?_
    rintro e w2 ⟨v', rfl, hb, hE⟩
    obtain ⟨A2, k2, rfl, _⟩ := hb.shape
    have HB := hid hb
    have HE := hid hE
    clear hb hE hlook c0 q0 q1
    go_wp2_with fail
    refine bodyPost_ret (v := .tuple #[.slice A2 f.c.b.length k2, .int .u16 0]) (by simp [results, Try.results14, go_sem]) rfl ?_
    unfold ReadIs
    rw [HR.out]
    exact ⟨A2, k2, rfl, HB.out, HE.out⟩
end Go.Proofs.Ytikophoopapngaa
