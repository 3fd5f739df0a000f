/- val.Field and the reference's Field, by contract. -/
import Derived.Test.YtaemmabaekjkeaaDoorValT
import Derived.Test.YtaemmabaekjkeaaDoorToks
import Derived.Test.YtaemmabaekjkeaaDoorGrowTail
import Derived.Test.YtaemmabaekjkeaaDoorGrowAid
import Derived.Laws.Cover1
import Derived.RegionTactic
import Derived.ChangeAlike
set_option linter.unusedSimpArgs false
set_option linter.unusedVariables false
namespace Go.Proofs.YtaemmabaekjkeaaDoor
open Go.RowKit
set_option linter.unusedVariables false



/-- Where a key stands, or would stand. -/
def fieldL (o : List F) (key : ByteArray) : Nat := (o.takeWhile fun f => keyLt f.key key).length
/-- Does it stand there? -/
def fieldIs (o : List F) (key : ByteArray) : Bool := match o[fieldL o key]? with | some f => f.key.toList == key.toList | none => false
theorem fieldL_le (o : List F) (key : ByteArray) : fieldL o key ≤ o.length := by
  unfold fieldL
  exact (List.takeWhile_prefix _).length_le
theorem fieldL_at {o : List F} {key : ByteArray} {j : Nat} (hj : j ≤ o.length) (h : ∀ i (hi : i < o.length), i < j → keyLt o[i].key key = true) (h2 : ∀ hj' : j < o.length, keyLt o[j].key key = false) : fieldL o key = j := by
  unfold fieldL
  induction o generalizing j with
  | nil => simp at hj; simp [hj]
  | cons f fs ih =>
    cases j with
    | zero =>
      have := h2 (by simp)
      simp only [List.getElem_cons_zero] at this
      simp [List.takeWhile_cons, this]
    | succ j =>
      have h0 := h 0 (by simp) (by omega)
      simp only [List.getElem_cons_zero] at h0
      rw [List.takeWhile_cons, h0]
      simp only [↓reduceIte, List.length_cons]
      rw [ih (by simpa using hj) (fun i hi hij => by have := h (i + 1) (by simpa using hi) (by omega); simpa using this) (fun hj' => by have := h2 (by simpa using hj'); simpa using this)]
theorem fieldIs_some {o : List F} {key : ByteArray} {j : Nat} (hj : j < o.length) (h : fieldL o key = j) : fieldIs o key = (o[j].key.toList == key.toList) := by
  unfold fieldIs
  rw [h]
  simp [hj]
theorem fieldIs_none {o : List F} {key : ByteArray} (h : fieldL o key = o.length) : fieldIs o key = false := by
  unfold fieldIs
  rw [h]
  simp

/-- A field's cells in sight. -/
theorem EField_cells {w : World} {S : BS} {cs : List Value} {f : F} (h : EField.rd w S cs f) : ∃ lv ov, cs = [.string f.key, U8 f.v.kind, .int .i64 f.v.n, .string f.v.s, lv, ov] ∧ (∃ A c, lv = .slice A f.v.l.length c) ∧ (∃ A c, ov = .slice A f.v.o.length c) ∧ VAt w S (.agg #[U8 f.v.kind, .int .i64 f.v.n, .string f.v.s, lv, ov]) f.v := by
  obtain ⟨c0, rfl, h0⟩ := rdF_iff.1 h
  obtain ⟨lv, ov, rfl, h1, h2⟩ := rdV_iff.1 h0
  obtain ⟨A, c, rfl, _⟩ := h1.shape
  obtain ⟨A', c', rfl, _⟩ := h2.shape
  exact ⟨_, _, rfl, ⟨_, _, rfl⟩, ⟨_, _, rfl⟩, ⟨_, _, rfl, h1, h2⟩⟩

set_option maxHeartbeats 400000 in
theorem field1_ok (w : World) (b : Nat) (key k0 : ByteArray) (c1 c2 c3 c4 c5 : Value) (h : w.cell? ⟨b, 0, none⟩ = some (.string key)) :
    Calls Tryd.prog 38 #[.agg #[.string k0, c1, c2, c3, c4, c5], .pointer (some ⟨b, 0, none⟩)] w fun e w' => e = .returned (.bool (!keyLt k0 key)) ∧ Ext w w' := by
  have hlt := lt_of_cell h
  have H := hid ((Keep.refl (fun _ => False) w).alloc (.cells #[.string k0, c1, c2, c3, c4, c5] TFIELD))
  go_enter Tryd.func38, Tryd.ntmps38
  go_wp2
  go_ret
  exact ⟨rfl, H.out⟩

abbrev fieldF (b : Nat) : Value := .func (.func 38) #[] #[.pointer (some ⟨b, 0, none⟩)]

set_option maxHeartbeats 1600000 in
theorem index_field (w : World) (S : BS) (v : Value) (o : List F) (b : Nat) (key : ByteArray) (h : Sl EField w S v o) (hb : w.cell? ⟨b, 0, none⟩ = some (.string key)) :
    Calls Tryd.prog 37 #[v, fieldF b] w fun e w' =>
      ((e = .returned (.int .i64 (-1)) ∧ fieldL o key = o.length) ∨ ∃ k : Nat, k < o.length ∧ e = .returned (.int .i64 (k : Int)) ∧ fieldL o key = k) ∧ Ext w w' := by
  obtain ⟨A, c, rfl, hlc, hcm⟩ := h.shape
  unfold maxLen at hcm
  have hblt := lt_of_cell hb
  have HA := hid h
  generalize hn : o.length = n at *
  have HN := hid hn
  clear h hn
  go_enter Tryd.func37, Tryd.ntmps37
  go_wp2
  go_loopw [8] (fun i wr => ∃ j : Nat, j ≤ n ∧ i = .int .i64 j ∧ (∀ i (hi : i < o.length), i < j → keyLt o[i].key key = true) ∧ Ext w wr) (fun i _ => n - (intOf i).toNat)
  case atStart => exact ⟨0, by omega, rfl, fun i _ h => by omega, Keep.refl _ _⟩
  case round =>
    obtain ⟨j, hj, rfl, hfl, hEj⟩ := hrel
    have HF := hid hfl
    clear hfl
    by_cases hlt : j < n
    · have hjm : j < o.length := by rw [HN.out]; exact hlt
      obtain ⟨b1, o1, c0, rfl, _, _, hrd, hcell⟩ := (HA.out.ext EField.ok hEj).at_ EField.ok hjm
      generalize hm : o[j]'hjm = m at *
      obtain ⟨lv, ov, rfl, ⟨A1, d1, rfl⟩, ⟨A2, d2, rfl⟩, _⟩ := EField_cells hrd
      have e0 := hcell 0 _ rfl
      have e1 := hcell 1 _ rfl
      have e2 := hcell 2 _ rfl
      have e3 := hcell 3 _ rfl
      have e4 := hcell 4 _ rfl
      have e5 := hcell 5 _ rfl
      have hz : EField.size = 6 := rfl
      simp only [hz, Nat.add_zero] at e0 e1 e2 e3 e4 e5
      have hbj := (hEj.cell hblt id).trans hb
      have HM := hid hm
      clear hz hcell hrd hm
      obtain ⟨p, hp⟩ : ∃ p : Bool, keyLt m.key key = p := ⟨_, rfl⟩
      go_wp2_with fail
      refine (field1_ok _ _ _ _ _ _ _ _ _ hbj).mono ?_
      rintro e w2 ⟨rfl, hE2⟩
      rw [hp]
      have HE := hid (hEj.ext hE2)
      have HP := hid hp
      clear hE2 hEj hp
      cases p with
      | false =>
        go_wp2
        go_ret
        refine ⟨.inr ⟨j, hlt, rfl, ?_⟩, HE.out⟩
        exact fieldL_at (by omega) HF.out fun _ => by rw [HM.out]; exact HP.out
      | true =>
        go_wp2
        go_roundw
        case rel =>
          refine ⟨j + 1, by omega, by go_num, fun i hi hij => ?_, HE.out⟩
          rcases Nat.lt_or_ge i j with h | h
          · exact HF.out i hi h
          · obtain rfl : i = j := by omega
            rw [HM.out]; exact HP.out
        case measure => simp [intOf]; omega
    · obtain rfl : j = n := by omega
      have HE := hid hEj
      clear hEj
      go_wp2
      go_ret
      refine ⟨.inl ⟨rfl, fieldL_at (by have := HN.out; omega) HF.out fun h => by have := HN.out; omega⟩, HE.out⟩

set_option maxHeartbeats 1600000 in
theorem field_val (w : World) (S : BS) (u : Value) (v : V) (key : ByteArray) (h : VAt w S u v) :
    Calls Tryd.prog 22 #[u, .string key] w fun e w' => e = .returned (.tuple #[.int .i64 (fieldL v.o key : Int), .bool (fieldIs v.o key)]) ∧ Ext w w' := by
  obtain ⟨lv, ov, rfl, hl, ho⟩ := h
  obtain ⟨A, c, rfl, hlc, hcm⟩ := hl.shape
  obtain ⟨A', c', rfl, hlc', hcm'⟩ := ho.shape
  have HO := hid ho
  generalize hvo : v.o = vo at *
  generalize v.kind = kk at *
  generalize v.n = nn at *
  generalize v.s = ss at *
  generalize v.l.length = ll at *
  clear hl ho hvo hlc hcm
  have hb1 : Blk ((w.alloc (.cells #[U8 kk, .int .i64 nn, .string ss, .slice A ll c, .slice A' vo.length c'] TVAL)).alloc (.cells #[.string key] 9)) w.heap.size TVAL #[U8 kk, .int .i64 nn, .string ss, .slice A ll c, .slice A' vo.length c'] := (Blk.new _ _ _).alloc _
  have hb2 : Blk ((w.alloc (.cells #[U8 kk, .int .i64 nn, .string ss, .slice A ll c, .slice A' vo.length c'] TVAL)).alloc (.cells #[.string key] 9)) (w.heap.size + 1) 9 #[.string key] := by
    have := Blk.new (w.alloc (.cells #[U8 kk, .int .i64 nn, .string ss, .slice A ll c, .slice A' vo.length c'] TVAL)) 9 #[.string key]
    rwa [World.size_alloc] at this
  have hE1 : Ext w ((w.alloc (.cells #[U8 kk, .int .i64 nn, .string ss, .slice A ll c, .slice A' vo.length c'] TVAL)).alloc (.cells #[.string key] 9)) := ((Keep.refl _ _).alloc _).alloc _
  go_enter Tryd.func22, Tryd.ntmps22
  go_wp2_with fail
  generalize (w.alloc (.cells #[U8 kk, .int .i64 nn, .string ss, .slice A ll c, .slice A' vo.length c'] TVAL)).alloc (.cells #[.string key] 9) = w1 at *
  have k0 := hb2.cell 0
  simp at k0
  refine (index_field _ _ _ _ _ key (HO.out.ext EField.ok hE1) k0).mono ?_
  rintro e w2 ⟨hres, hE2⟩
  have hb3 := hb1.keep hE2 id
  have hb4 := hb2.keep hE2 id
  have q4 := hb3.cell 4
  have k1 := hb4.cell 0
  simp at q4 k1
  have HE := hid (hE1.ext hE2)
  rcases hres with ⟨rfl, hf⟩ | ⟨k, hk, rfl, hf⟩
  · have HF := hid hf
    clear hE1 hE2 hb1 hb2 hb3 hb4 hf k0
    go_wp2
    go_ret2
    exact ⟨by rw [HF.out, fieldIs_none HF.out]; rfl, HE.out⟩
  · obtain ⟨b1, o1, c0, rfl, _, _, hrd, hcell⟩ := (HO.out.ext EField.ok HE.out).at_ EField.ok hk
    generalize hm : vo[k] = m at *
    obtain ⟨lv, ov, rfl, ⟨A1, d1, rfl⟩, ⟨A2, d2, rfl⟩, _⟩ := EField_cells hrd
    have e0 := hcell 0 _ rfl
    have hz : EField.size = 6 := rfl
    simp only [hz, Nat.add_zero] at e0
    have HF := hid (And.intro hf (fieldIs_some hk hf))
    have HM := hid hm
    clear hE1 hE2 hb1 hb2 hb3 hb4 hf k0 hrd hcell hz hm
    go_wp2
    go_region
    go_wp2
    go_ret2
    exact ⟨by rw [HF.out.2, HF.out.1, HM.out]; rfl, HE.out.drew⟩
end Go.Proofs.YtaemmabaekjkeaaDoor
