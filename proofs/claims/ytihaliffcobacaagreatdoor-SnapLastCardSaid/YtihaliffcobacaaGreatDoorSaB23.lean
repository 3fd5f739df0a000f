/- SnapD1, SnapD: laid together. -/
import Derived.Test.YtihaliffcobacaaGreatDoorSaB22
import Derived.Test.YtihaliffcobacaaGreatDoorSaB21
import Derived.Test.YtihaliffcobacaaGreatDoorSaB18
set_option linter.unusedSimpArgs false
set_option linter.unusedVariables false
set_option maxHeartbeats 25600000
set_option maxRecDepth 20000
namespace Go.Proofs.YtihaliffcobacaaGreatDoor
open Go.RowKit Go.Shelf
attribute [local go_sem] Oper.semAt_some
theorem back0_ok (A : Option Addr) (n c : Nat) (w : World) :
  Calls Tryz.prog 31 #[.slice A n c] w fun e w' => e = .returned (.func (.func 63) #[] #[.pointer (some ⟨w.heap.size, 0, none⟩)]) ∧ w' = w.alloc (.cells #[.slice A n c] TBS) := by
 go_enter Tryz.func31, Tryz.ntmps31
 go_wp2
 go_ret
 exact ⟨rfl, rfl⟩
set_option maxRecDepth 100000 in
theorem back1_one (m vb : Nat) (w : World) (S : BS) (v : Value) (ls : List (List UInt8)) (x : List UInt8) (hm : 1 ≤ m) (hvb : Blk w vb TBS #[v]) (hv : Sl EBytes w S v (ls ++ [x])) :
  ∃ A c, BytesS w S (.slice A x.length c) x ∧ SeqOne Fence.wide m Tryz.prog 63 #[.pointer (some ⟨vb, 0, none⟩)] #[.int .i64 ls.length, .slice A x.length c] w := by
 obtain ⟨A, c, rfl, hlc, hcm⟩ := hv.shape
 have hkl : ls.length < (ls ++ [x]).length := by rw [List.length_append]; simp
 obtain ⟨b, off, c0, rfl, hb, hsz, ⟨u, rfl, hu⟩, hc⟩ := hv.at_ EBytes.ok hkl
 have hxl : (ls ++ [x])[ls.length]'hkl = x := by simp
 rw [hxl] at hu
 obtain ⟨A1, c1, rfl, _⟩ := hu.shape
 have e1 : EBytes.size = 1 := rfl
 have hcell := hc 0 _ (by rfl)
 simp only [e1, Nat.mul_one, Nat.add_zero] at hcell
 refine ⟨A1, c1, hu, ?_⟩
 have hcm2 : ls.length + 1 ≤ maxLen := by rw [List.length_append] at hlc; exact Nat.le_trans hlc hcm
 obtain ⟨n, hn⟩ : ∃ n, ls.length = n := ⟨_, rfl⟩
 rw [show (ls ++ [x]).length = n + 1 from by rw [List.length_append, hn]; rfl] at *
 rw [hn] at hcell hcm2 ⊢
 clear hv hc hu hxl hkl hn
 intro l W R hW hY
 have hbk := hvb.keep hW id
 have q0 : W.cell? ⟨vb, 0, none⟩ = some (.slice (some ⟨b, off, none⟩) (n + 1) c) := hbk.cell 0
 have q1 := (hW.cell hsz id).trans hcell
 have HY := hid hY
 clear hvb hbk hY hcell hW
 have hnX : (0 : Int) ≤ (n : Int) := by omega
 have hwr : wrap64 (n : Int) = (n : Int) := by unfold wrap64; unfold maxLen at hcm2; omega
 refine callsIn_of_wp Tryz.func63 rfl trivial ?_ rfl
 simp only [Tryz.ntmps63, List.size_toArray, List.length_cons, List.length_nil, Nat.reduceAdd, Nat.reduceSub, Array.replicate_succ, Array.replicate_zero, List.push_toArray, List.append_toArray, List.nil_append, List.cons_append]
 gi_wp2_with fail
 gi_loopw [3] (fun i wr => i = .int .i64 (n : Int) ∧ wr = W) (fun _ _ => 0)
 case atStart => exact ⟨congrArg _ hwr, rfl⟩
 case round =>
  obtain ⟨rfl, rfl⟩ := hrel
  obtain ⟨fn, tmps, assign, body, hy, hR⟩ := HY.out _ (Keep.refl _ _)
  have HR := hid hR
  clear hR
  gi_wp2_with fail
  refine HR.out.mono ?_
  rintro e W' ⟨rfl, hJ⟩
  have HJ := hid hJ
  clear hJ hy HR q0 q1
  gi_wp2
  refine bodyPost_ret (v := .tuple #[]) (by simp [results, Tryz.results63, go_sem]) rfl ⟨⟨_, rfl⟩, HJ.out⟩
set_option maxRecDepth 100000 in
theorem back1_no (m vb : Nat) (w : World) (A : Option Addr) (c : Nat) (hvb : Blk w vb TBS #[.slice A 0 c]) : SeqNo Fence.wide m Tryz.prog 63 #[.pointer (some ⟨vb, 0, none⟩)] w := by
 intro l W hW
 have hbk := hvb.keep hW id
 have q0 : W.cell? ⟨vb, 0, none⟩ = some (.slice A 0 c) := hbk.cell 0
 clear hvb hbk hW
 refine callsIn_of_wp Tryz.func63 rfl trivial ?_ rfl
 simp only [Tryz.ntmps63, List.size_toArray, List.length_cons, List.length_nil, Nat.reduceAdd, Nat.reduceSub, Array.replicate_succ, Array.replicate_zero, List.push_toArray, List.append_toArray, List.nil_append, List.cons_append]
 gi_wp2_with fail
 gi_loopw [3] (fun i wr => i = .int .i64 (-1) ∧ wr = W) (fun _ _ => 0)
 case atStart => exact ⟨rfl, rfl⟩
 case round =>
  obtain ⟨rfl, rfl⟩ := hrel
  gi_wp2
  go_end0
  exact ⟨⟨_, rfl⟩, Keep.refl _ _⟩
end Go.Proofs.YtihaliffcobacaaGreatDoor
namespace Go.Proofs.YtihaliffcobacaaGreatDoor
open Go.RowKit Go.Shelf
attribute [local go_sem] Oper.semAt_some
def ResIs (W0 : World) (r0 : Nat) (sh : Sh) (W : World) : Prop := ∃ a0 a1 a2 a3 a4, Blk W r0 TSHOT #[.int .i64 sh.n, .bool sh.there, a0, a1, a2, a3, a4] ∧ Blk W (r0 + 1) 4 #[.bool true] ∧ VAt W (fun q => W0.heap.size + 1 < q) (.agg #[a0, a1, a2, a3, a4]) sh.v ∧ Keep (fun q => q = r0 ∨ q = r0 + 1) W0 W
theorem ResIs.put {W0 : World} {r0 : Nat} {sh : Sh} {W : World} (h : ResIs W0 r0 sh W) (hr : r0 + 1 < W0.heap.size) {k : Nat} (hk : k = W0.heap.size ∨ k = W0.heap.size + 1) (o' : Obj) : ResIs W0 r0 sh (W.putObj k o') := by
 obtain ⟨a0, a1, a2, a3, a4, h1, h2, h3, h4⟩ := h
 have hp : Keep (· = k) W (W.putObj k o') := Keep.grown (Keep.refl _ _) (grownBy_putObj' W k o') fun j e _ => by cases e; rfl
 exact ⟨a0, a1, a2, a3, a4, h1.keep hp (by omega), h2.keep hp (by omega), h3.keep hp fun q hq e => by omega, h4.trans hp fun q hq e => by omega⟩
set_option maxRecDepth 100000 in
theorem load_some (w0 : World) (hva : ValAny w0) (w : World) (h0 : Ext w0 w) (B : BS) (d : Nat) (cs : List DC) (st : DSt) (nm : ByteArray) (hd : DiskIs w B d cs st) (hz : nm.size ≤ 140737488355328) (ls : List (List UInt8)) (sh : Sh) (hs : ShOk sh) (hwi : Wide sh.v)
  (hbl : (readR cs (byt (fileT nm))).2.length ≤ 2000000) (hsc : (scanL (readR cs (byt (fileT nm))).2).1 = ls ++ [shB sh]) :
  Calls Tryz.prog 12 #[.pointer (some ⟨d, 0, none⟩), .string nm] w (ReadSIs w sh) := by
 have hadd : ∀ w' : World, (Op.stringOp .add nm snapT).run Tryz.prog w' = .ok (.string (fileT nm)) w' := fun w' => run_string_add_sum w' _ _ (by show nm.size + 5 ≤ _; omega)
 have hszX : ¬ 9223372036854775807 < nm.size + 5 := by omega
 have HD := hid hd
 have HS := hid hs
 have HWI := hid hwi
 have HVA := hid hva
 have H0 := hid h0
 have HBL := hid hbl
 have HSC := hid hsc
 have HZF := hid (show (fileT nm).size ≤ maxLen from by unfold fileT maxLen; rw [ByteArray.size_append]; show nm.size + 5 ≤ _; omega)
 clear hd hs hwi hva h0 hbl hsc hz
 refine callsOfF Tryz.func12 rfl ?_
 simp only [Tryz.ntmps12, List.size_toArray, List.length_cons, List.length_nil, Nat.reduceAdd, Nat.reduceSub, Array.replicate_succ, Array.replicate_zero, List.push_toArray, List.append_toArray, List.nil_append, List.cons_append]
 gi_wp2_with fail
 obtain ⟨W0, hW0⟩ : ∃ W0, (w.alloc (.cells #[.int .i64 0, .bool false, .int .u8 0, .int .i64 0, .string ⟨#[]⟩, .slice none 0 0, .slice none 0 0] TSHOT)).alloc (.cells #[.bool false] 4) = W0 := ⟨_, rfl⟩
 have hE0 : Ext w W0 := by rw [← hW0]; exact ((Keep.refl _ _).alloc _).alloc _
 have hb0 : Blk W0 w.heap.size TSHOT #[.int .i64 0, .bool false, .int .u8 0, .int .i64 0, .string ⟨#[]⟩, .slice none 0 0, .slice none 0 0] := by rw [← hW0]; exact (Blk.new _ _ _).alloc _
 have hb1 : Blk W0 (w.heap.size + 1) 4 #[.bool false] := by
  have := Blk.new (w.alloc (.cells #[.int .i64 0, .bool false, .int .u8 0, .int .i64 0, .string ⟨#[]⟩, .slice none 0 0, .slice none 0 0] TSHOT)) 4 #[.bool false]
  rw [World.size_alloc] at this
  rw [← hW0]; exact this
 rw [show (w.alloc (.cells #[.int .i64 0, .bool false, .int .u8 0, .int .i64 0, .string ⟨#[]⟩, .slice none 0 0, .slice none 0 0] 35)).alloc (.cells #[.bool false] 4) = W0 from hW0]
 clear hW0
 refine ⟨trivial, (callsIn_wide.2 (disk_read W0 B d cs st (fileT nm) (HD.out.ext hE0) HZF.out)).mono ?_⟩
 rintro e w1 ⟨A1, c1, rfl, hx, hk⟩
 have HB0 := hid (hb0.keep hk id)
 have HB1 := hid (hb1.keep hk id)
 have HE1 := hid (hE0.ext hk)
 have HBY := hid hx
 clear hE0 hb0 hb1 hx hk
 gi_wp2_with fail
 refine ⟨trivial, (callsIn_wide.2 (scan_any _ _ _ w1 HBY.out HBL.out)).mono ?_⟩
 rintro e w2 ⟨v2, rfl, hrow, hE2⟩
 have HE2 := hid (HE1.out.ext hE2)
 replace HB0 := hid (HB0.out.keep hE2 id)
 replace HB1 := hid (HB1.out.keep hE2 id)
 rw [show (scanL (readR cs (byt (fileT nm))).2).1 = ls ++ [shB sh] from HSC.out] at hrow
 obtain ⟨A2, c2, rfl, hlc2, _⟩ := hrow.shape
 have HROW := hid hrow
 clear hrow hE2 HE1
 gi_wp2_with fail
 refine ⟨trivial, (callsIn_wide.2 (back0_ok A2 _ c2 w2)).mono ?_⟩
 rintro e w3 ⟨rfl, hw3⟩
 have hE3 : Ext w2 w3 := by rw [hw3]; exact (Keep.refl _ _).alloc _
 have hb2 : Blk w3 w2.heap.size TBS #[.slice A2 (ls ++ [shB sh]).length c2] := by rw [hw3, show (ls ++ [shB sh]).length = ls.length + 1 from by simp]; exact Blk.new _ _ _
 obtain ⟨A, c, hu, hseq⟩ := back1_one 4 w2.heap.size w3 _ _ ls (shB sh) (by omega) hb2 (HROW.out.ext EBytes.ok hE3)
 have HU := hid hu
 have HE3 := hid (HE2.out.ext hE3)
 replace HB0 := hid (HB0.out.keep hE3 id)
 replace HB1 := hid (HB1.out.keep hE3 id)
 clear hw3 hb2 hu hE3 HE2 HROW HBY
 gi_wp2_with fail
 have hlt0 := HB1.out.lt
 refine wpIn_range_ret rfl (by omega) (gf := 63) (lb := #[.pointer (some ⟨w2.heap.size, 0, none⟩)]) rfl trivial (enters_of Tryz.func63 (by kernel_rfl) rfl) hseq rfl
  (ResIs w3 w.heap.size sh) (fun W o' h _ => h.put hlt0 (.inr rfl) o') ?a1 ?assign ?body ?done
 case assign =>
  intro l W K hK
  gi_wp2
  exact hK
 case body =>
  intro l W hE hlt
  have HEW := hid hE
  have HSZW := hid hE.size
  have HBR0 := hid (HB0.out.keep hE id)
  have HBR1 := hid (HB1.out.keep hE id)
  clear hE hseq
  gi_wp2_with fail
  refine ⟨trivial, (callsIn_round (reads_ok w0 HVA.out sh HS.out HWI.out W (H0.out.ext (HE3.out.ext HEW.out)) _ _ (HU.out.ext EU8.ok HEW.out))).mono ?_⟩
  rintro e w4 ⟨u, rfl, ⟨a0, a1, a2, a3, a4, rfl, lv, ov, e1, hl, ho⟩, hE4⟩
  simp only [Value.agg.injEq, Array.mk.injEq, List.cons.injEq, and_true] at e1
  obtain ⟨rfl, rfl, rfl, rfl, rfl⟩ := e1
  obtain ⟨A4, c4, rfl, _⟩ := hl.shape
  obtain ⟨A5, c5, rfl, _⟩ := ho.shape
  have HV4 := hid (show VAt w4 (fun q => W.heap.size ≤ q) (.agg #[U8 sh.v.kind, .int .i64 sh.v.n, .string sh.v.s, .slice A4 sh.v.l.length c4, .slice A5 sh.v.o.length c5]) sh.v from ⟨_, _, rfl, hl, ho⟩)
  replace HBR0 := hid (HBR0.out.keep hE4 id)
  replace HBR1 := hid (HBR1.out.keep hE4 id)
  have HE4 := hid hE4
  obtain ⟨r0, r1, r2, r3, r4, r5, r6⟩ : (∀ o, (w4.alloc o).cell? ⟨w.heap.size, 0, none⟩ = some (.int .i64 0)) ∧ (∀ o, (w4.alloc o).cell? ⟨w.heap.size, 1, none⟩ = some (.bool false)) ∧ (∀ o, (w4.alloc o).cell? ⟨w.heap.size, 2, none⟩ = some (.int .u8 0)) ∧ (∀ o, (w4.alloc o).cell? ⟨w.heap.size, 3, none⟩ = some (.int .i64 0)) ∧ (∀ o, (w4.alloc o).cell? ⟨w.heap.size, 4, none⟩ = some (.string ⟨#[]⟩)) ∧ (∀ o, (w4.alloc o).cell? ⟨w.heap.size, 5, none⟩ = some (.slice none 0 0)) ∧ (∀ o, (w4.alloc o).cell? ⟨w.heap.size, 6, none⟩ = some (.slice none 0 0)) :=
   ⟨fun o => (HBR0.out.alloc o).cell 0, fun o => (HBR0.out.alloc o).cell 1, fun o => (HBR0.out.alloc o).cell 2, fun o => (HBR0.out.alloc o).cell 3, fun o => (HBR0.out.alloc o).cell 4, fun o => (HBR0.out.alloc o).cell 5, fun o => (HBR0.out.alloc o).cell 6⟩
  have r7 : ∀ o, (w4.alloc o).cell? ⟨w.heap.size + 1, 0, none⟩ = some (.bool false) := fun o => (HBR1.out.alloc o).cell 0
  have f0 : ∀ o, (w4.alloc o).frozen? ⟨w.heap.size, 0, none⟩ = false := fun o => (HBR0.out.alloc o).frozen 0
  have f1 : ∀ o, (w4.alloc o).frozen? ⟨w.heap.size, 1, none⟩ = false := fun o => (HBR0.out.alloc o).frozen 1
  have f2 : ∀ o, (w4.alloc o).frozen? ⟨w.heap.size, 2, none⟩ = false := fun o => (HBR0.out.alloc o).frozen 2
  have f3 : ∀ o, (w4.alloc o).frozen? ⟨w.heap.size, 3, none⟩ = false := fun o => (HBR0.out.alloc o).frozen 3
  have f4 : ∀ o, (w4.alloc o).frozen? ⟨w.heap.size, 4, none⟩ = false := fun o => (HBR0.out.alloc o).frozen 4
  have f5 : ∀ o, (w4.alloc o).frozen? ⟨w.heap.size, 5, none⟩ = false := fun o => (HBR0.out.alloc o).frozen 5
  have f6 : ∀ o, (w4.alloc o).frozen? ⟨w.heap.size, 6, none⟩ = false := fun o => (HBR0.out.alloc o).frozen 6
  have f7 : ∀ o, (w4.alloc o).frozen? ⟨w.heap.size + 1, 0, none⟩ = false := fun o => (HBR1.out.alloc o).frozen 0
  clear hl ho hE4
  gi_wp2
  change RoundRets _ _ _ _ _ ((set7 (w4.alloc (.cells #[.int .i64 sh.n, .bool sh.there, U8 sh.v.kind, .int .i64 sh.v.n, .string sh.v.s, .slice A4 sh.v.l.length c4, .slice A5 sh.v.o.length c5] TSHOT)) w.heap.size (.int .i64 sh.n) (.bool sh.there) (U8 sh.v.kind) (.int .i64 sh.v.n) (.string sh.v.s) (.slice A4 sh.v.l.length c4) (.slice A5 sh.v.o.length c5)).setCell ⟨w.heap.size + 1, 0, none⟩ (.bool true))
  obtain ⟨W5, hW5⟩ : ∃ W5, w4.alloc (.cells #[.int .i64 sh.n, .bool sh.there, U8 sh.v.kind, .int .i64 sh.v.n, .string sh.v.s, .slice A4 sh.v.l.length c4, .slice A5 sh.v.o.length c5] TSHOT) = W5 := ⟨_, rfl⟩
  have hE5 : Ext w4 W5 := by rw [← hW5]; exact (Keep.refl _ _).alloc _
  rw [hW5]
  clear hW5
  obtain ⟨W6, hW6⟩ : ∃ W6, set7 W5 w.heap.size (.int .i64 sh.n) (.bool sh.there) (U8 sh.v.kind) (.int .i64 sh.v.n) (.string sh.v.s) (.slice A4 sh.v.l.length c4) (.slice A5 sh.v.o.length c5) = W6 := ⟨_, rfl⟩
  have hk6 : Keep (· = w.heap.size) W5 W6 := by rw [← hW6]; exact set7_keep _ _ _ _ _ _ _ _ _
  have hb6 : Blk W6 w.heap.size TSHOT #[.int .i64 sh.n, .bool sh.there, U8 sh.v.kind, .int .i64 sh.v.n, .string sh.v.s, .slice A4 sh.v.l.length c4, .slice A5 sh.v.o.length c5] := by rw [← hW6]; exact set7_to (HBR0.out.keep hE5 id) _ _ _ _ _ _ _
  rw [hW6]
  clear hW6
  have hk7 : Keep (· = w.heap.size + 1) W6 (W6.setCell ⟨w.heap.size + 1, 0, none⟩ (.bool true)) := (Keep.refl _ _).set1 0 _
  have hb7 : Blk (W6.setCell ⟨w.heap.size + 1, 0, none⟩ (.bool true)) (w.heap.size + 1) 4 #[.bool true] := by
   have := ((HBR1.out.keep hE5 id).keep hk6 (by omega)).set_ 0 (.bool true)
   simpa using this
  have hkW : Keep (fun q => q = w.heap.size ∨ q = w.heap.size + 1) W (W6.setCell ⟨w.heap.size + 1, 0, none⟩ (.bool true)) :=
   ((((HE4.out.ext hE5).mono (G := fun q => q = w.heap.size ∨ q = w.heap.size + 1) fun _ _ x => x.elim).trans hk6 fun q _ e => .inl e).trans hk7 fun q _ e => .inr e)
  have hsw := HSZW.out
  refine ⟨⟨hkW.size, fun k o hB ho' hc => (hkW.block k (Array.getElem?_eq_some_iff.1 ho').1 (by omega)).trans ho'⟩, _, _, _, _, _, hb6.keep hk7 (by omega), hb7, ?_, (HEW.out.mono fun _ _ x => x.elim).trans hkW fun q _ e => e⟩
  exact (((HV4.out.ext hE5).keep hk6 fun q hq e => by omega).keep hk7 fun q hq e => by omega).more fun q _ h => by omega
 case done =>
  intro W hi hD
  obtain ⟨a0, a1, a2, a3, a4, h1, h2, h3, h4⟩ := hi
  have hlt1 := hlt0
  have HSZ3 := hid HE3.out.size
  have hE := HE3.out.trans h4 fun q hq e => by omega
  have hp : Keep (· = w3.heap.size) W (W.putObj w3.heap.size (.deferred none)) := Keep.grown (Keep.refl _ _) (grownBy_putObj' W _ _) fun k e _ => by cases e; rfl
  have hb6 := h1.keep hp (by omega)
  have hb7 := h2.keep hp (by omega)
  have HEND := hid (show ReadSIs w sh (.returned (.tuple #[.agg #[.int .i64 sh.n, .bool sh.there, a0, a1, a2, a3, a4], .bool true])) (W.putObj w3.heap.size (.deferred none)) from
   ⟨_, rfl, ⟨_, _, _, _, _, rfl, (h3.keep hp fun q hq e => by omega).more fun q _ h => by have := HSZ3.out; omega⟩, hE.trans hp fun q hq e => by have := HSZ3.out; omega⟩)
  obtain ⟨t0, t1, t2, t3, t4, t5, t6⟩ := blk7s hb6
  have t7 := hb7.cell 0
  simp only [List.getElem?_toArray, List.getElem?_cons_zero] at t7
  have HDD := hid hD
  clear h1 h2 h3 h4 hE hp hb6 hb7 hD hseq
  gi_wp2
  refine ⟨by simp, .inl ⟨_, _, rfl, run_takeDeferred HDD.out, ?_⟩⟩
  refine ⟨.tuple #[.agg #[.int .i64 sh.n, .bool sh.there, a0, a1, a2, a3, a4], .bool true], ?_, HEND.out⟩
  simp [results, Tryz.results12, Act.put, go_sem, t0, t1, t2, t3, t4, t5, t6, t7]
set_option maxRecDepth 100000 in
theorem load_no (w0 : World) (hva : ValAny w0) (w : World) (h0 : Ext w0 w) (B : BS) (d : Nat) (cs : List DC) (st : DSt) (nm : ByteArray) (hd : DiskIs w B d cs st) (hz : nm.size ≤ 140737488355328)
  (hbl : (readR cs (byt (fileT nm))).2.length ≤ 2000000) (hsc : (scanL (readR cs (byt (fileT nm))).2).1 = []) :
  Calls Tryz.prog 12 #[.pointer (some ⟨d, 0, none⟩), .string nm] w fun e w' => e = .returned (.tuple #[.agg #[.int .i64 0, .bool false, .int .u8 0, .int .i64 0, .string ⟨#[]⟩, .slice none 0 0, .slice none 0 0], .bool false]) ∧ Ext w w' := by
 have hadd : ∀ w' : World, (Op.stringOp .add nm snapT).run Tryz.prog w' = .ok (.string (fileT nm)) w' := fun w' => run_string_add_sum w' _ _ (by show nm.size + 5 ≤ _; omega)
 have hszX : ¬ 9223372036854775807 < nm.size + 5 := by omega
 have HD := hid hd
 have HVA := hid hva
 have H0 := hid h0
 have HBL := hid hbl
 have HSC := hid hsc
 have HZF := hid (show (fileT nm).size ≤ maxLen from by unfold fileT maxLen; rw [ByteArray.size_append]; show nm.size + 5 ≤ _; omega)
 clear hd hva h0 hbl hsc hz
 refine callsOfF Tryz.func12 rfl ?_
 simp only [Tryz.ntmps12, List.size_toArray, List.length_cons, List.length_nil, Nat.reduceAdd, Nat.reduceSub, Array.replicate_succ, Array.replicate_zero, List.push_toArray, List.append_toArray, List.nil_append, List.cons_append]
 gi_wp2_with fail
 obtain ⟨W0, hW0⟩ : ∃ W0, (w.alloc (.cells #[.int .i64 0, .bool false, .int .u8 0, .int .i64 0, .string ⟨#[]⟩, .slice none 0 0, .slice none 0 0] TSHOT)).alloc (.cells #[.bool false] 4) = W0 := ⟨_, rfl⟩
 have hE0 : Ext w W0 := by rw [← hW0]; exact ((Keep.refl _ _).alloc _).alloc _
 have hb0 : Blk W0 w.heap.size TSHOT #[.int .i64 0, .bool false, .int .u8 0, .int .i64 0, .string ⟨#[]⟩, .slice none 0 0, .slice none 0 0] := by rw [← hW0]; exact (Blk.new _ _ _).alloc _
 have hb1 : Blk W0 (w.heap.size + 1) 4 #[.bool false] := by
  have := Blk.new (w.alloc (.cells #[.int .i64 0, .bool false, .int .u8 0, .int .i64 0, .string ⟨#[]⟩, .slice none 0 0, .slice none 0 0] TSHOT)) 4 #[.bool false]
  rw [World.size_alloc] at this
  rw [← hW0]; exact this
 rw [show (w.alloc (.cells #[.int .i64 0, .bool false, .int .u8 0, .int .i64 0, .string ⟨#[]⟩, .slice none 0 0, .slice none 0 0] 35)).alloc (.cells #[.bool false] 4) = W0 from hW0]
 clear hW0
 refine ⟨trivial, (callsIn_wide.2 (disk_read W0 B d cs st (fileT nm) (HD.out.ext hE0) HZF.out)).mono ?_⟩
 rintro e w1 ⟨A1, c1, rfl, hx, hk⟩
 have HB0 := hid (hb0.keep hk id)
 have HB1 := hid (hb1.keep hk id)
 have HE1 := hid (hE0.ext hk)
 have HBY := hid hx
 clear hE0 hb0 hb1 hx hk
 gi_wp2_with fail
 refine ⟨trivial, (callsIn_wide.2 (scan_any _ _ _ w1 HBY.out HBL.out)).mono ?_⟩
 rintro e w2 ⟨v2, rfl, hrow, hE2⟩
 have HE2 := hid (HE1.out.ext hE2)
 replace HB0 := hid (HB0.out.keep hE2 id)
 replace HB1 := hid (HB1.out.keep hE2 id)
 rw [show (scanL (readR cs (byt (fileT nm))).2).1 = [] from HSC.out] at hrow
 obtain ⟨A2, c2, rfl, hlc2, _⟩ := hrow.shape
 have HROW := hid hrow
 clear hrow hE2 HE1
 gi_wp2_with fail
 refine ⟨trivial, (callsIn_wide.2 (back0_ok A2 _ c2 w2)).mono ?_⟩
 rintro e w3 ⟨rfl, hw3⟩
 have hE3 : Ext w2 w3 := by rw [hw3]; exact (Keep.refl _ _).alloc _
 have hb2 : Blk w3 w2.heap.size TBS #[.slice A2 0 c2] := by rw [hw3]; exact Blk.new _ _ _
 have hseq := back1_no 4 w2.heap.size w3 A2 c2 hb2
 have HE3 := hid (HE2.out.ext hE3)
 replace HB0 := hid (HB0.out.keep hE3 id)
 replace HB1 := hid (HB1.out.keep hE3 id)
 clear hw3 hb2 hE3 HE2 HROW HBY
 gi_wp2_with fail
 have hlt0 := HB1.out.lt
 refine wpIn_range_none rfl (by omega) (gf := 63) (lb := #[.pointer (some ⟨w2.heap.size, 0, none⟩)]) rfl trivial (enters_of Tryz.func63 (by kernel_rfl) rfl) hseq ?done
 case done =>
  intro W hE hD
  have hb6 := HB0.out.keep hE id
  have hb7 := HB1.out.keep hE id
  obtain ⟨t0, t1, t2, t3, t4, t5, t6⟩ := blk7s hb6
  obtain ⟨f0, f1, f2, f3, f4, f5, f6⟩ := frz7s hb6
  have t7 := hb7.cell 0
  have f7 := hb7.frozen 0
  simp only [List.getElem?_toArray, List.getElem?_cons_zero] at t7
  have HEND := hid (HE3.out.ext hE)
  have HB6 := hid hb6
  have HB7 := hid hb7
  have HDD := hid hD
  clear hE hb6 hb7 hD hseq
  gi_wp2
  change bodyPostM _ _ _ _ _ _ _ ((set7 W w.heap.size (.int .i64 0) (.bool false) (.int .u8 0) (.int .i64 0) (.string ⟨#[]⟩) (.slice none 0 0) (.slice none 0 0)).setCell ⟨w.heap.size + 1, 0, none⟩ (.bool false))
  obtain ⟨W6, hW6⟩ : ∃ W6, set7 W w.heap.size (.int .i64 0) (.bool false) (.int .u8 0) (.int .i64 0) (.string ⟨#[]⟩) (.slice none 0 0) (.slice none 0 0) = W6 := ⟨_, rfl⟩
  have hk6 : Keep (· = w.heap.size) W W6 := by rw [← hW6]; exact set7_keep _ _ _ _ _ _ _ _ _
  have hb6 : Blk W6 w.heap.size TSHOT #[.int .i64 0, .bool false, .int .u8 0, .int .i64 0, .string ⟨#[]⟩, .slice none 0 0, .slice none 0 0] := by rw [← hW6]; exact set7_to HB6.out _ _ _ _ _ _ _
  rw [hW6]
  clear hW6
  obtain ⟨W7, hW7⟩ : ∃ W7, W6.setCell ⟨w.heap.size + 1, 0, none⟩ (.bool false) = W7 := ⟨_, rfl⟩
  have hk7 : Keep (· = w.heap.size + 1) W6 W7 := by rw [← hW7]; exact (Keep.refl _ _).set1 0 _
  have hb7 : Blk W7 (w.heap.size + 1) 4 #[.bool false] := by
   have := (HB7.out.keep hk6 (by omega)).set_ 0 (.bool false)
   rw [← hW7]
   simpa using this
  rw [hW7]
  clear hW7
  have hd7 : W7.heap[w3.heap.size]? = some (.deferred (some [])) := by
   have hl := (Array.getElem?_eq_some_iff.1 HDD.out).1
   have hl6 := hk6.size
   exact ((hk7.block _ (by omega) (by omega)).trans (hk6.block _ hl (by omega))).trans HDD.out
  have hp : Keep (· = w3.heap.size) W7 (W7.putObj w3.heap.size (.deferred none)) := Keep.grown (Keep.refl _ _) (grownBy_putObj' W7 _ _) fun k e _ => by cases e; rfl
  have hb8 := (hb6.keep hk7 (by omega)).keep hp (by omega)
  have hb9 := hb7.keep hp (by omega)
  obtain ⟨u0, u1, u2, u3, u4, u5, u6⟩ := blk7s hb8
  have u7 := hb9.cell 0
  simp only [List.getElem?_toArray, List.getElem?_cons_zero] at u7
  have hfin := ((HEND.out.trans hk6 fun q hq e => by omega).trans hk7 fun q hq e => by omega).trans hp fun q hq e => by omega
  refine ⟨by simp, .inl ⟨_, _, rfl, run_takeDeferred hd7, ?_⟩⟩
  refine ⟨.tuple #[.agg #[.int .i64 0, .bool false, .int .u8 0, .int .i64 0, .string ⟨#[]⟩, .slice none 0 0, .slice none 0 0], .bool false], ?_, rfl, hfin⟩
  simp [results, Tryz.results12, Act.put, go_sem, u0, u1, u2, u3, u4, u5, u6, u7]
end Go.Proofs.YtihaliffcobacaaGreatDoor
