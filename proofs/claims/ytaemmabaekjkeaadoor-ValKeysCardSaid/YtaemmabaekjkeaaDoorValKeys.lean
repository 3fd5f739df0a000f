/- Where a key would stand in an object, and an object with it: the walk. -/
import Derived.Test.YtaemmabaekjkeaaDoorLawKnown1
import Derived.Test.YtaemmabaekjkeaaDoorLawOne
import Derived.Test.YtaemmabaekjkeaaDoorSoundL
set_option linter.unusedSimpArgs false
set_option linter.unusedVariables false
namespace Go.Proofs.YtaemmabaekjkeaaDoor
open Go.RowKit
set_option linter.unusedVariables false
theorem weight_small {x : V} (h : SV x) (hs : x.size ≤ 1000) : x.weight ≤ 601000 := by
  have := V.weight_le 300 x (SV.str x h)
  omega
theorem wrap_small {n : Nat} (h : n ≤ 9000000) : wrap64 (n : Int) = n := by unfold wrap64; omega
theorem two_at {w : World} {S : BS} {b : Nat} {x y : V} {a0 a1 a2 a3 a4 b0 b1 b2 b3 b4 : Value} (hx : VAt w S (.agg #[a0, a1, a2, a3, a4]) x) (hy : VAt w S (.agg #[b0, b1, b2, b3, b4]) y) (hS : S b) (h : Blk w b TVAL #[a0, a1, a2, a3, a4, b0, b1, b2, b3, b4]) :
    VAt w S (.agg #[.int .u8 4, .int .i64 0, .string ⟨#[]⟩, .slice (some ⟨b, 0, none⟩) 2 2, .slice none 0 0]) (.mk 4 0 ⟨#[]⟩ [x, y] []) :=
  ⟨_, _, rfl, ⟨[a0, a1, a2, a3, a4] ++ ([b0, b1, b2, b3, b4] ++ []), ⟨rfl, _, 2, rfl, by simp [V.l], by simp [maxLen], fun _ => ⟨b, 0, rfl, hS, h.lt, fun j u hu => by rw [Nat.zero_add, h.cell]; simpa using hu⟩⟩, ⟨_, _, rfl, hx.rd, ⟨_, _, rfl, hy.rd, rfl⟩⟩⟩, Sl.nil _ _⟩
theorem one_at {w : World} {S : BS} {b : Nat} {x : V} {key : ByteArray} {a0 a1 a2 a3 a4 : Value} (hx : VAt w S (.agg #[a0, a1, a2, a3, a4]) x) (hS : S b) (h : Blk w b TFIELD #[.string key, a0, a1, a2, a3, a4]) :
    VAt w S (.agg #[.int .u8 5, .int .i64 0, .string ⟨#[]⟩, .slice none 0 0, .slice (some ⟨b, 0, none⟩) 1 1]) (.mk 5 0 ⟨#[]⟩ [] [.mk key x]) :=
  ⟨_, _, rfl, Sl.nil _ _, ⟨_, ⟨rfl, _, 1, rfl, by simp [V.o], by simp [maxLen], fun _ => ⟨b, 0, rfl, hS, h.lt, fun j u hu => by rw [Nat.zero_add, h.cell]; simpa [F.key] using hu⟩⟩, Cells.single (rdF_iff.2 ⟨_, rfl, hx.rd⟩)⟩⟩
theorem list_sv {x y : V} (hx : SV x) (hy : SV y) : SV (.mk 4 0 ⟨#[]⟩ [x, y] []) := by
  rw [SV]
  exact ⟨.inr (.inr (.inr (.inr (.inl ⟨rfl, rfl, rfl, rfl⟩)))), by rw [SVs, SVs, SVs]; exact ⟨hx, hy, trivial⟩, by rw [SFs]; trivial, trivial⟩
theorem obj_sv {x : V} {k : ByteArray} (hx : SV x) (hk : Asc k) : SV (.mk 5 0 ⟨#[]⟩ [] [.mk k x]) := by
  rw [SV]
  exact ⟨.inr (.inr (.inr (.inr (.inr ⟨rfl, rfl, rfl, rfl⟩)))), by rw [SVs]; trivial, by rw [SFs, SFs, SF]; exact ⟨⟨hk, hx⟩, trivial⟩, ⟨fun g hg => by simp at hg, trivial⟩⟩
/-- A row that a region makes. -/
def RowMade (B T : Nat) (cs : Array Value) (v : Value) (w : World) : Prop := ∃ n, v = .slice (some ⟨n, 0, none⟩) 1 1 ∧ B ≤ n ∧ Blk w n T cs
/-- A box that a region makes. -/
def BoxMade (B T : Nat) (cs : Array Value) (v : Value) (w : World) : Prop := ∃ n, v = .pointer (some ⟨n, 0, none⟩) ∧ B ≤ n ∧ Blk w n T cs
theorem RowMade.ext {B T : Nat} {cs : Array Value} {v : Value} {w w' : World} (h : RowMade B T cs v w) (he : Ext w w') : RowMade B T cs v w' := by
  obtain ⟨n, h1, h2, h3⟩ := h; exact ⟨n, h1, h2, h3.keep he id⟩
theorem BoxMade.ext {B T : Nat} {cs : Array Value} {v : Value} {w w' : World} (h : BoxMade B T cs v w) (he : Ext w w') : BoxMade B T cs v w' := by
  obtain ⟨n, h1, h2, h3⟩ := h; exact ⟨n, h1, h2, h3.keep he id⟩
theorem k_asc : Asc ⟨#[107]⟩ := ⟨by decide, by decide⟩
theorem rise_of {x : V} (h : SV x) : Rise x.o := ((SV_iff x).1 h).2.2.2
theorem o_small {x : V} {n : Nat} (h : x.size ≤ n) : x.o.length ≤ n := by
  have h1 := F.sizes_len x.o
  cases x with | mk k m s l o => simp only [V.size, V.o] at *; omega
theorem key_self (K : ByteArray) : keyLt K K = false := less_irrefl K.toList
theorem keys_at {o : List F} (h : Rise o) (K : ByteArray) {j : Nat} (hj : j < o.length) : keyLt o[j].key K = decide (j < fieldL o K) ∧ (o[j].key.toList == K.toList) = (fieldIs o K && decide (j = fieldL o K)) := by
  rw [rise_iff] at h
  rcases Nat.lt_trichotomy j (fieldL o K) with hl | hl | hl
  · have h1 : keyLt o[j].key K = true := take_fieldL_lt (List.mem_take_iff_getElem.2 ⟨j, by omega, rfl⟩)
    refine ⟨by rw [h1]; simp [hl], ?_⟩
    have h2 : ¬ o[j].key = K := fun e => by rw [e, key_self] at h1; cases h1
    have h3 : ¬ j = fieldL o K := by omega
    have h4 : ¬ o[j].key.toList = K.toList := fun e => h2 (key_eq e)
    simp [h3, h4]
  · subst hl
    refine ⟨by rw [fieldL_head hj]; simp, ?_⟩
    rw [fieldIs_some hj rfl]
    by_cases he : (o[fieldL o K]).key = K
    · simp [he]
    · have : ¬ (o[fieldL o K]).key.toList = K.toList := fun e => he (key_eq e)
      simp [he, this]
  · have h0 := fieldL_head (o := o) (key := K) (by omega)
    have hr := List.pairwise_iff_getElem.1 h (fieldL o K) j (by omega) hj hl
    have h1 : keyLt o[j].key K = false := by
      cases hc : keyLt o[j].key K with
      | false => rfl
      | true => have h5 : keyLt o[fieldL o K].key K = true := less_trans hr hc; rw [h0] at h5; cases h5
    have h2 : ¬ o[j].key = K := fun e => by rw [e, h0] at hr; cases hr
    have h3 : ¬ j = fieldL o K := by omega
    have h4 : ¬ j < fieldL o K := by omega
    have h5 : ¬ o[j].key.toList = K.toList := fun e => h2 (key_eq e)
    refine ⟨by rw [h1]; simp [h4], by simp [h5, h3]⟩
theorem fieldIs_with (o : List F) (K : ByteArray) (x : V) : fieldIs (withL o K x) K = true := by
  have hl := fieldL_le o K
  have hn : (o.take (fieldL o K)).length = fieldL o K := by rw [List.length_take]; omega
  have ht : ∀ f ∈ o.take (fieldL o K), keyLt f.key K = true := fun f hf => take_fieldL_lt hf
  unfold withL
  generalize o.take (fieldL o K) = a at *
  generalize o.drop (if fieldIs o K = true then fieldL o K + 1 else fieldL o K) = b at *
  have hlt : a.length < (a ++ F.mk K x :: b).length := by simp
  have hf : fieldL (a ++ F.mk K x :: b) K = a.length := by
    refine fieldL_at (by omega) (fun i hi hij => ?_) fun _ => by rw [List.getElem_append_right (Nat.le_refl _)]; simpa [F.key] using key_self K
    rw [List.getElem_append_left hij]
    exact ht _ (List.getElem_mem _)
  rw [fieldIs_some hlt hf, List.getElem_append_right (Nat.le_refl _)]
  simp [F.key]
theorem sv_with {y m : V} {K : ByteArray} (h : SV y) (hk : y.kind = 5) (hm : SV m) (hK : Asc K) : SV (.mk y.kind y.n y.s y.l (withL y.o K m)) := by
  obtain ⟨h1, h2, h3, h4⟩ := (SV_iff y).1 h
  rw [SV]
  refine ⟨?_, h2, withL_sfs h3 hK hm, withL_rise h4⟩
  rcases h1 with h1 | h1 | h1 | h1 | h1 | h1
  · rw [hk] at h1; exact absurd h1.1 (by decide)
  · rw [hk] at h1; exact absurd h1.1 (by decide)
  · rw [hk] at h1; exact absurd h1.1 (by decide)
  · rw [hk] at h1; exact absurd h1.1 (by decide)
  · rw [hk] at h1; exact absurd h1.1 (by decide)
  · exact .inr (.inr (.inr (.inr (.inr ⟨h1.1, h1.2.1, h1.2.2.1, h1.2.2.2⟩))))
/-- What 'Build' hands back, of a region. -/
def ValMade (b : Nat) (v : Value) (w : World) : Prop := ∃ m, SV m ∧ VAt w (fun q => q ≠ b) v m
/-- What 'With' hands back, of a region. -/
def WithMade (b : Nat) (o : List F) (K : ByteArray) (v : Value) (w : World) : Prop := ∃ m, SV m ∧ Sl EField w (fun q => q ≠ b) v (withL o K m)
theorem ValMade.ext {b : Nat} {v : Value} {w w' : World} (h : ValMade b v w) (he : Ext w w') : ValMade b v w' := by
  obtain ⟨m, h1, h2⟩ := h; exact ⟨m, h1, h2.ext he⟩
theorem WithMade.ext {b : Nat} {o : List F} {K : ByteArray} {v : Value} {w w' : World} (h : WithMade b o K v w) (he : Ext w w') : WithMade b o K v w' := by
  obtain ⟨m, h1, h2⟩ := h; exact ⟨m, h1, h2.ext EField.ok he⟩
theorem VAt.fields {w : World} {S : BS} {a b c : Value} {A A' : Option Addr} {n d n' d' : Nat} {x : V} (h : VAt w S (.agg #[a, b, c, .slice A n d, .slice A' n' d']) x) : Sl EField w S (.slice A' n' d') x.o := by
  obtain ⟨lv, ov, e, _, ho⟩ := h
  simp at e
  obtain ⟨_, _, _, _, rfl⟩ := e
  exact ho
theorem VAt.swap {w w' : World} {b : Nat} {a0 a1 a2 a3 a4 v : Value} {y : V} {o' : List F} (h : VAt w (fun q => q ≠ b) (.agg #[a0, a1, a2, a3, a4]) y) (h2 : Sl EField w (fun q => q ≠ b) v o') (hk : Keep (· = b) w w') :
    VAt w' (fun _ => True) (.agg #[a0, a1, a2, a3, v]) (.mk y.kind y.n y.s y.l o') := by
  obtain ⟨lv, ov, e, hl, ho⟩ := h
  simp only [Value.agg.injEq, Array.mk.injEq, List.cons.injEq] at e
  obtain ⟨rfl, rfl, rfl, rfl, rfl, _⟩ := e
  exact ⟨_, _, rfl, (hl.keep EVal.ok hk (fun q hq e => hq e)).more EVal.ok (fun _ _ _ => trivial), (h2.keep EField.ok hk (fun q hq e => hq e)).more EField.ok (fun _ _ _ => trivial)⟩
theorem with_at {w : World} {b : Nat} {y : V} {o' : List F} {A1 A2 A3 : Option Addr} {c1 n2 c2 c3 : Nat} {K : ByteArray}
    (hB : Blk w b TVAL ((#[U8 y.kind, .int .i64 y.n, .string y.s, .slice A1 y.l.length c1, .slice A2 n2 c2] : Array Value).setIfInBounds 4 (.slice A3 o'.length c3)))
    (hV : VAt w (fun _ => True) (.agg #[U8 y.kind, .int .i64 y.n, .string y.s, .slice A1 y.l.length c1, .slice A3 o'.length c3]) (.mk y.kind y.n y.s y.l o'))
    (hS : SV (.mk y.kind y.n y.s y.l o')) (hI : fieldIs o' K = true) :
    ∃ (z : V) (B1 : Option Addr) (d1 : Nat) (B2 : Option Addr) (d2 : Nat), Blk w b TVAL #[U8 z.kind, .int .i64 z.n, .string z.s, .slice B1 z.l.length d1, .slice B2 z.o.length d2] ∧
      VAt w (fun _ => True) (.agg #[U8 z.kind, .int .i64 z.n, .string z.s, .slice B1 z.l.length d1, .slice B2 z.o.length d2]) z ∧ SV z ∧ fieldIs z.o K = true :=
  have h : Blk w b TVAL #[U8 y.kind, .int .i64 y.n, .string y.s, .slice A1 y.l.length c1, .slice A3 o'.length c3] := by simpa using hB
  ⟨.mk y.kind y.n y.s y.l o', A1, c1, A3, c3, h, hV, hS, hI⟩
set_option maxRecDepth 20000 in
set_option maxHeartbeats 12800000 in
theorem keys_walk (lv : Value) (mv : Value) (ts : List Tk) (ms : List Tk) (key : ByteArray) (w : World) (hts : Sl ETok w (fun _ => True) lv ts) (hms : Sl ETok w (fun _ => True) mv ms) (hv : ValAny w) :
    Calls Tryd.prog 8 #[lv, .string key, mv] w fun e w' => e = .returned (.bool true) ∧ Ext w w' := by
  obtain ⟨Ats, cts, rfl, _, _⟩ := hts.shape
  have HL := hid hts
  clear hts
  obtain ⟨Ams, cms, rfl, _, _⟩ := hms.shape
  have HM := hid hms
  clear hms
  have HVA := hid hv
  clear hv
  go_enter Tryd.func8, Tryd.ntmps8
  have hend : ∀ wx, Ext w wx → Calls Tryd.prog 10 #[] wx fun e w' => e = .returned (.bool true) ∧ Ext w w' := fun wx h => (known1_ok w wx HVA.out h).mono fun e w' h2 => ⟨h2.1, h.ext h2.2⟩
  have HEND := hid hend
  clear hend
  have HEW := hid (Keep.refl (fun _ => False) w)
  go_wp2_with fail
  refine (heavy1_ok _ _ _ _ HL.out).mono ?_
  rintro e w1 ⟨bw1, rfl, hb, hE⟩
  clear hb
  replace HL := hid (HL.out.ext ETok.ok hE)
  replace HM := hid (HM.out.ext ETok.ok hE)
  replace HEW := hid (HEW.out.ext hE)
  clear hE
  cases bw1 with
  | true =>
    go_wp2_with fail
    refine (HEND.out _ HEW.out).mono ?_
    rintro e w2 ⟨rfl, hz⟩
    have HZ := hid hz
    clear hz
    go_wp2
    go_ret
    exact ⟨rfl, HZ.out⟩
  | false =>
    go_wp2_with fail
    refine (heavy1_ok _ _ _ _ HM.out).mono ?_
    rintro e w3 ⟨bw3, rfl, hb, hE⟩
    clear hb
    replace HL := hid (HL.out.ext ETok.ok hE)
    replace HM := hid (HM.out.ext ETok.ok hE)
    replace HEW := hid (HEW.out.ext hE)
    clear hE
    cases bw3 with
    | true =>
      go_wp2_with fail
      refine (HEND.out _ HEW.out).mono ?_
      rintro e w4 ⟨rfl, hz⟩
      have HZ := hid hz
      clear hz
      go_wp2
      go_ret
      exact ⟨rfl, HZ.out⟩
    | false =>
      by_cases hkl : (300 : Int) < key.size
      · skip
        go_wp2_with fail
        refine (HEND.out _ HEW.out).mono ?_
        rintro e w5 ⟨rfl, hz⟩
        have HZ := hid hz
        clear hz
        go_wp2
        go_ret
        exact ⟨rfl, HZ.out⟩
      · skip
        go_wp2_with fail
        refine (known1_ok w _ HVA.out HEW.out).mono ?_
        rintro e w6 ⟨rfl, hE⟩
        replace HL := hid (HL.out.ext ETok.ok hE)
        replace HM := hid (HM.out.ext ETok.ok hE)
        replace HEW := hid (HEW.out.ext hE)
        clear hE HEND
        have hkp := plain_ok key
        have hka := plain_asc key
        generalize hK : textOf (plainL key) = K at *
        have HPK := hid hkp
        have HKA := hid hka
        clear hkp hka hK
        go_wp2_with fail
        refine (build_ok _ _ _ _ HL.out).mono ?_
        rintro e w7 ⟨u, x, rfl, hsv, hsz, ⟨lx, ox, rfl, hlx, hox⟩, hE⟩
        obtain ⟨Ax1, cx1, rfl, _⟩ := hlx.shape
        obtain ⟨Ax2, cx2, rfl, _⟩ := hox.shape
        have HSx := hid (And.intro hsv hsz)
        have HVx := hid (show VAt w7 (fun q => q ≠ w7.heap.size) (.agg #[U8 x.kind, .int .i64 x.n, .string x.s, .slice Ax1 x.l.length cx1, .slice Ax2 x.o.length cx2]) x from VAt.more ⟨_, _, rfl, hlx, hox⟩ fun _ h _ => Nat.ne_of_lt h)
        replace HL := hid (HL.out.ext ETok.ok hE)
        replace HM := hid (HM.out.ext ETok.ok hE)
        replace HEW := hid (HEW.out.ext hE)
        have HWB := hid HEW.out.size
        clear hE hsv hsz hlx hox
        go_wp2_with fail
        · have hkd : ((x.kind.toNat : Int) != 5) = true := by assumption
          have hX : Ext w7 ((w7.alloc (.cells #[.int .u8 5, .int .i64 0, .string ⟨#[]⟩, .slice none 0 0, .slice (some ⟨w7.heap.size + 1, 0, none⟩) 1 1] TVAL)).alloc (.cells #[.string ⟨#[107]⟩, U8 x.kind, .int .i64 x.n, .string x.s, .slice Ax1 x.l.length cx1, .slice Ax2 x.o.length cx2] TFIELD)) := ((Keep.refl _ _).alloc _).alloc _
          have hb1 := (Blk.new w7 TVAL #[.int .u8 5, .int .i64 0, .string ⟨#[]⟩, .slice none 0 0, .slice (some ⟨w7.heap.size + 1, 0, none⟩) 1 1]).alloc (.cells #[.string ⟨#[107]⟩, U8 x.kind, .int .i64 x.n, .string x.s, .slice Ax1 x.l.length cx1, .slice Ax2 x.o.length cx2] TFIELD)
          have hb2 := Blk.new (w7.alloc (.cells #[.int .u8 5, .int .i64 0, .string ⟨#[]⟩, .slice none 0 0, .slice (some ⟨w7.heap.size + 1, 0, none⟩) 1 1] TVAL)) TFIELD #[.string ⟨#[107]⟩, U8 x.kind, .int .i64 x.n, .string x.s, .slice Ax1 x.l.length cx1, .slice Ax2 x.o.length cx2]
          rw [World.size_alloc] at hb2
          have hv := one_at (VAt.ext HVx.out hX) (show w7.heap.size + 1 ≠ w7.heap.size from Nat.succ_ne_self _) hb2
          have hex : ∃ (y : V) (A1 : Option Addr) (c1 : Nat) (A2 : Option Addr) (c2 : Nat), Blk ((w7.alloc (.cells #[.int .u8 5, .int .i64 0, .string ⟨#[]⟩, .slice none 0 0, .slice (some ⟨w7.heap.size + 1, 0, none⟩) 1 1] TVAL)).alloc (.cells #[.string ⟨#[107]⟩, U8 x.kind, .int .i64 x.n, .string x.s, .slice Ax1 x.l.length cx1, .slice Ax2 x.o.length cx2] TFIELD)) w7.heap.size TVAL #[U8 y.kind, .int .i64 y.n, .string y.s, .slice A1 y.l.length c1, .slice A2 y.o.length c2] ∧ VAt ((w7.alloc (.cells #[.int .u8 5, .int .i64 0, .string ⟨#[]⟩, .slice none 0 0, .slice (some ⟨w7.heap.size + 1, 0, none⟩) 1 1] TVAL)).alloc (.cells #[.string ⟨#[107]⟩, U8 x.kind, .int .i64 x.n, .string x.s, .slice Ax1 x.l.length cx1, .slice Ax2 x.o.length cx2] TFIELD)) (fun q => q ≠ w7.heap.size) (.agg #[U8 y.kind, .int .i64 y.n, .string y.s, .slice A1 y.l.length c1, .slice A2 y.o.length c2]) y ∧ SV y ∧ y.size ≤ 250 ∧ y.kind = 5 := ⟨.mk 5 0 ⟨#[]⟩ [] [.mk ⟨#[107]⟩ x], none, 0, _, 1, hb1, hv, obj_sv HSx.out.1 k_asc, by have := HSx.out.2; simp [V.size, V.sizes, F.sizes, F.size]; omega, rfl⟩
          clear hb1 hb2 hv
          replace HL := hid (HL.out.ext ETok.ok hX)
          replace HM := hid (HM.out.ext ETok.ok hX)
          replace HEW := hid (HEW.out.ext hX)
          clear hX hkd
          generalize ((w7.alloc (.cells #[.int .u8 5, .int .i64 0, .string ⟨#[]⟩, .slice none 0 0, .slice (some ⟨w7.heap.size + 1, 0, none⟩) 1 1] TVAL)).alloc (.cells #[.string ⟨#[107]⟩, U8 x.kind, .int .i64 x.n, .string x.s, .slice Ax1 x.l.length cx1, .slice Ax2 x.o.length cx2] TFIELD)) = w8 at *
          obtain ⟨y, Ay1, cy1, Ay2, cy2, hB, hV, hS, hZ, hD⟩ := hex
          have HBy := hid hB
          have HVy := hid hV
          have HSY := hid (And.intro hS (And.intro hZ hD))
          clear hB hV hS hZ hD
          obtain ⟨qy0, qy1, qy2, qy3, qy4⟩ := blk5 HBy.out
          go_wp2_with fail
          refine wp_region_grow (specOf [(2, fun v _ => v = .string K), (3, fun v _ => v = .tuple #[.int .i64 (fieldL y.o K : Int), .bool (fieldIs y.o K)])]) (fun w' => Ext w8 w') (stable_cons (fun v w w' h he => h) (stable_cons (fun v w w' h he => h) stable_nil)) (stableC_ext _) (by kernel_rfl) (by kernel_rfl) (Keep.drew (Keep.refl _ _)) ?_
          iterate 2
            (try simp only [Act.put, List.setIfInBounds_toArray, List.set_cons_zero, List.set_cons_succ])
            refine grow_run rfl rfl rfl ?_
            apply Exists.intro
            refine ⟨fun w' hC hK => ?_, ?_⟩
            · have qy0 := (hC.cell (lt_of_cell qy0) id).trans qy0
              have qy1 := (hC.cell (lt_of_cell qy1) id).trans qy1
              have qy2 := (hC.cell (lt_of_cell qy2) id).trans qy2
              have qy3 := (hC.cell (lt_of_cell qy3) id).trans qy3
              have qy4 := (hC.cell (lt_of_cell qy4) id).trans qy4
              go_simp
              rfl
          (try simp only [Act.put, List.setIfInBounds_toArray, List.set_cons_zero, List.set_cons_succ])
          refine grow_eff rfl rfl rfl (fun w' hC hK => ?_) (fun v2 hv2 => ?_)
          · unfold growAt
            go_simp
            refine grow_call ((HPK.out w').mono ?_)
            rintro e w'' ⟨rfl, h1⟩
            exact ⟨_, rfl, h1, rfl⟩
          obtain ⟨_, _, rfl⟩ := hv2.head
          (try simp only [Act.put, List.setIfInBounds_toArray, List.set_cons_zero, List.set_cons_succ])
          refine grow_eff rfl rfl rfl (fun w' hC hK => ?_) (fun v3 hv3 => ?_)
          · unfold growAt
            go_simp
            refine grow_call ((field_val _ _ _ y K (VAt.ext HVy.out hC)).mono ?_)
            rintro e w'' ⟨rfl, h1⟩
            exact ⟨_, rfl, h1, rfl⟩
          obtain ⟨_, _, rfl⟩ := hv3.head
          iterate 5
            (try simp only [Act.put, List.setIfInBounds_toArray, List.set_cons_zero, List.set_cons_succ])
            refine grow_run rfl rfl rfl ?_
            apply Exists.intro
            refine ⟨fun w' hC hK => ?_, ?_⟩
            · go_simp
              rfl
          refine grow_nil fun wa hC _ => ?_
          have hC : Ext w8 wa := hC
          replace HL := hid (HL.out.ext ETok.ok hC)
          replace HM := hid (HM.out.ext ETok.ok hC)
          replace HEW := hid (HEW.out.ext hC)
          replace HBy := hid (HBy.out.keep hC id)
          replace HVy := hid (HVy.out.ext hC)
          clear hC qy0 qy1 qy2 qy3 qy4
          have HFL := hid (fun (j : Nat) (hj : j < y.o.length) => keys_at (rise_of HSY.out.1) K hj)
          generalize hfl : fieldL y.o K = fl at *
          generalize hfi : fieldIs y.o K = fi at *
          have HKX := hid (show y.o.length ≤ 1000 from by have := o_small HSY.out.2.1; omega)
          clear hfl hfi
          go_wp2
          go_loopw [10] (fun i wr => ∃ j : Nat, j ≤ y.o.length ∧ i = .int .i64 j ∧ Ext wa wr) (fun i _ => y.o.length - (intOf i).toNat)
          case atStart => exact ⟨0, by omega, rfl, Keep.refl _ _⟩
          case round =>
            obtain ⟨j, hj, rfl, hEj⟩ := hrel
            obtain ⟨q0, q1, q2, q3, q4⟩ := blk5 (HBy.out.keep hEj id)
            have HVr := hid (VAt.ext HVy.out hEj)
            by_cases hlt : j < y.o.length
            · have hltX : (j : Int) < y.o.length := by omega
              obtain ⟨b1, o1, c0, hA2, _, _, hrd, hcell⟩ := HVr.out.fields.at_ EField.ok hlt
              have hk := HFL.out j hlt
              generalize y.o[j]'hlt = m at *
              obtain ⟨lv, ov, rfl, ⟨A1, d1, rfl⟩, ⟨A2, d2, rfl⟩, _⟩ := EField_cells hrd
              have e0 := hcell 0 _ rfl
              have hz : EField.size = 6 := rfl
              simp only [hz, Nat.add_zero] at e0
              clear hz hcell hrd
              subst hA2
              cases fi with
              | false =>
                simp only [Bool.false_and] at hk
                go_wp2_with fail
                refine wp_region_grow (specOf [(7, fun v _ => v = .string K), (21, fun v _ => v = .string K)]) (fun w' => Ext wr w') (stable_cons (fun v w w' h he => h) (stable_cons (fun v w w' h he => h) stable_nil)) (stableC_ext _) (by kernel_rfl) (by kernel_rfl) (Keep.drew (Keep.refl _ _)) ?_
                iterate 7
                  (try simp only [Act.put, List.setIfInBounds_toArray, List.set_cons_zero, List.set_cons_succ])
                  refine grow_run rfl rfl rfl ?_
                  apply Exists.intro
                  refine ⟨fun w' hC hK => ?_, ?_⟩
                  · have q0 := (hC.cell (lt_of_cell q0) id).trans q0
                    have q1 := (hC.cell (lt_of_cell q1) id).trans q1
                    have q2 := (hC.cell (lt_of_cell q2) id).trans q2
                    have q3 := (hC.cell (lt_of_cell q3) id).trans q3
                    have q4 := (hC.cell (lt_of_cell q4) id).trans q4
                    have e0 := (hC.cell (lt_of_cell e0) id).trans e0
                    go_simp
                    rfl
                (try simp only [Act.put, List.setIfInBounds_toArray, List.set_cons_zero, List.set_cons_succ])
                refine grow_eff rfl rfl rfl (fun w' hC hK => ?_) (fun v7 hv7 => ?_)
                · unfold growAt
                  go_simp
                  refine grow_call ((HPK.out w').mono ?_)
                  rintro e w'' ⟨rfl, h1⟩
                  exact ⟨_, rfl, h1, rfl⟩
                obtain ⟨_, _, rfl⟩ := hv7.head
                iterate 13
                  (try simp only [Act.put, List.setIfInBounds_toArray, List.set_cons_zero, List.set_cons_succ])
                  refine grow_run rfl rfl rfl ?_
                  apply Exists.intro
                  refine ⟨fun w' hC hK => ?_, ?_⟩
                  · have q0 := (hC.cell (lt_of_cell q0) id).trans q0
                    have q1 := (hC.cell (lt_of_cell q1) id).trans q1
                    have q2 := (hC.cell (lt_of_cell q2) id).trans q2
                    have q3 := (hC.cell (lt_of_cell q3) id).trans q3
                    have q4 := (hC.cell (lt_of_cell q4) id).trans q4
                    have e0 := (hC.cell (lt_of_cell e0) id).trans e0
                    go_simp
                    rfl
                (try simp only [Act.put, List.setIfInBounds_toArray, List.set_cons_zero, List.set_cons_succ])
                refine grow_eff rfl rfl rfl (fun w' hC hK => ?_) (fun v21 hv21 => ?_)
                · unfold growAt
                  go_simp
                  refine grow_call ((HPK.out w').mono ?_)
                  rintro e w'' ⟨rfl, h1⟩
                  exact ⟨_, rfl, h1, rfl⟩
                obtain ⟨_, _, rfl⟩ := hv21.head
                iterate 3
                  (try simp only [Act.put, List.setIfInBounds_toArray, List.set_cons_zero, List.set_cons_succ])
                  refine grow_run rfl rfl rfl ?_
                  apply Exists.intro
                  refine ⟨fun w' hC hK => ?_, ?_⟩
                  · go_simp
                    rfl
                iterate 3
                  (try simp only [Act.put, List.setIfInBounds_toArray, List.set_cons_zero, List.set_cons_succ])
                  with_reducible refine grow_skip ?_ ?_ ?_
                  · rfl
                  · rfl
                iterate 3
                  (try simp only [Act.put, List.setIfInBounds_toArray, List.set_cons_zero, List.set_cons_succ])
                  refine grow_run rfl rfl rfl ?_
                  apply Exists.intro
                  refine ⟨fun w' hC hK => ?_, ?_⟩
                  · go_simp
                    rfl
                refine grow_nil fun w2 hC _ => ?_
                have HE2 := hid (hEj.ext (show Ext wr w2 from hC))
                clear hC hEj q0 q1 q2 q3 q4 e0
                have HJ := hid (show j + 1 ≤ y.o.length from hlt)
                clear hk hv7 hv21
                go_wp2_with fail
                have hkx := HKX.out
                have hj1 := HJ.out
                have ew : wrap64 ((j : Int) + 1) = ((j + 1 : Nat) : Int) := by unfold wrap64; omega
                rw [ew]
                exact ⟨⟨j + 1, hj1, rfl, HE2.out⟩, Nat.sub_lt_sub_left hlt (Nat.lt_succ_self j)⟩
              | true =>
                by_cases hjf : j = fl
                · subst hjf
                  simp only [Bool.true_and, decide_true] at hk
                  go_wp2_with fail
                  refine wp_region_grow (specOf [(7, fun v _ => v = .string K), (21, fun v _ => v = .string K)]) (fun w' => Ext wr w') (stable_cons (fun v w w' h he => h) (stable_cons (fun v w w' h he => h) stable_nil)) (stableC_ext _) (by kernel_rfl) (by kernel_rfl) (Keep.drew (Keep.refl _ _)) ?_
                  iterate 7
                    (try simp only [Act.put, List.setIfInBounds_toArray, List.set_cons_zero, List.set_cons_succ])
                    refine grow_run rfl rfl rfl ?_
                    apply Exists.intro
                    refine ⟨fun w' hC hK => ?_, ?_⟩
                    · have q0 := (hC.cell (lt_of_cell q0) id).trans q0
                      have q1 := (hC.cell (lt_of_cell q1) id).trans q1
                      have q2 := (hC.cell (lt_of_cell q2) id).trans q2
                      have q3 := (hC.cell (lt_of_cell q3) id).trans q3
                      have q4 := (hC.cell (lt_of_cell q4) id).trans q4
                      have e0 := (hC.cell (lt_of_cell e0) id).trans e0
                      go_simp
                      rfl
                  (try simp only [Act.put, List.setIfInBounds_toArray, List.set_cons_zero, List.set_cons_succ])
                  refine grow_eff rfl rfl rfl (fun w' hC hK => ?_) (fun v7 hv7 => ?_)
                  · unfold growAt
                    go_simp
                    refine grow_call ((HPK.out w').mono ?_)
                    rintro e w'' ⟨rfl, h1⟩
                    exact ⟨_, rfl, h1, rfl⟩
                  obtain ⟨_, _, rfl⟩ := hv7.head
                  iterate 13
                    (try simp only [Act.put, List.setIfInBounds_toArray, List.set_cons_zero, List.set_cons_succ])
                    refine grow_run rfl rfl rfl ?_
                    apply Exists.intro
                    refine ⟨fun w' hC hK => ?_, ?_⟩
                    · have q0 := (hC.cell (lt_of_cell q0) id).trans q0
                      have q1 := (hC.cell (lt_of_cell q1) id).trans q1
                      have q2 := (hC.cell (lt_of_cell q2) id).trans q2
                      have q3 := (hC.cell (lt_of_cell q3) id).trans q3
                      have q4 := (hC.cell (lt_of_cell q4) id).trans q4
                      have e0 := (hC.cell (lt_of_cell e0) id).trans e0
                      go_simp
                      rfl
                  (try simp only [Act.put, List.setIfInBounds_toArray, List.set_cons_zero, List.set_cons_succ])
                  refine grow_eff rfl rfl rfl (fun w' hC hK => ?_) (fun v21 hv21 => ?_)
                  · unfold growAt
                    go_simp
                    refine grow_call ((HPK.out w').mono ?_)
                    rintro e w'' ⟨rfl, h1⟩
                    exact ⟨_, rfl, h1, rfl⟩
                  obtain ⟨_, _, rfl⟩ := hv21.head
                  iterate 3
                    (try simp only [Act.put, List.setIfInBounds_toArray, List.set_cons_zero, List.set_cons_succ])
                    refine grow_run rfl rfl rfl ?_
                    apply Exists.intro
                    refine ⟨fun w' hC hK => ?_, ?_⟩
                    · go_simp
                      rfl
                  iterate 3
                    (try simp only [Act.put, List.setIfInBounds_toArray, List.set_cons_zero, List.set_cons_succ])
                    refine grow_run rfl rfl rfl ?_
                    apply Exists.intro
                    refine ⟨fun w' hC hK => ?_, ?_⟩
                    · go_simp
                      rfl
                  iterate 3
                    (try simp only [Act.put, List.setIfInBounds_toArray, List.set_cons_zero, List.set_cons_succ])
                    refine grow_run rfl rfl rfl ?_
                    apply Exists.intro
                    refine ⟨fun w' hC hK => ?_, ?_⟩
                    · go_simp
                      rfl
                  refine grow_nil fun w2 hC _ => ?_
                  have HE2 := hid (hEj.ext (show Ext wr w2 from hC))
                  clear hC hEj q0 q1 q2 q3 q4 e0
                  have HJ := hid (show j + 1 ≤ y.o.length from hlt)
                  clear hk hv7 hv21
                  go_wp2_with fail
                  have hkx := HKX.out
                  have hj1 := HJ.out
                  have ew : wrap64 ((j : Int) + 1) = ((j + 1 : Nat) : Int) := by unfold wrap64; omega
                  rw [ew]
                  exact ⟨⟨j + 1, hj1, rfl, HE2.out⟩, Nat.sub_lt_sub_left hlt (Nat.lt_succ_self j)⟩
                · have hjX : ¬ (j : Int) = fl := by omega
                  have hjY : ((j : Int) == (fl : Int)) = false := by simp [hjX]
                  simp only [Bool.true_and, hjf, decide_false] at hk
                  go_wp2_with fail
                  refine wp_region_grow (specOf [(7, fun v _ => v = .string K), (21, fun v _ => v = .string K)]) (fun w' => Ext wr w') (stable_cons (fun v w w' h he => h) (stable_cons (fun v w w' h he => h) stable_nil)) (stableC_ext _) (by kernel_rfl) (by kernel_rfl) (Keep.drew (Keep.refl _ _)) ?_
                  iterate 7
                    (try simp only [Act.put, List.setIfInBounds_toArray, List.set_cons_zero, List.set_cons_succ])
                    refine grow_run rfl rfl rfl ?_
                    apply Exists.intro
                    refine ⟨fun w' hC hK => ?_, ?_⟩
                    · have q0 := (hC.cell (lt_of_cell q0) id).trans q0
                      have q1 := (hC.cell (lt_of_cell q1) id).trans q1
                      have q2 := (hC.cell (lt_of_cell q2) id).trans q2
                      have q3 := (hC.cell (lt_of_cell q3) id).trans q3
                      have q4 := (hC.cell (lt_of_cell q4) id).trans q4
                      have e0 := (hC.cell (lt_of_cell e0) id).trans e0
                      go_simp
                      rfl
                  (try simp only [Act.put, List.setIfInBounds_toArray, List.set_cons_zero, List.set_cons_succ])
                  refine grow_eff rfl rfl rfl (fun w' hC hK => ?_) (fun v7 hv7 => ?_)
                  · unfold growAt
                    go_simp
                    refine grow_call ((HPK.out w').mono ?_)
                    rintro e w'' ⟨rfl, h1⟩
                    exact ⟨_, rfl, h1, rfl⟩
                  obtain ⟨_, _, rfl⟩ := hv7.head
                  iterate 13
                    (try simp only [Act.put, List.setIfInBounds_toArray, List.set_cons_zero, List.set_cons_succ])
                    refine grow_run rfl rfl rfl ?_
                    apply Exists.intro
                    refine ⟨fun w' hC hK => ?_, ?_⟩
                    · have q0 := (hC.cell (lt_of_cell q0) id).trans q0
                      have q1 := (hC.cell (lt_of_cell q1) id).trans q1
                      have q2 := (hC.cell (lt_of_cell q2) id).trans q2
                      have q3 := (hC.cell (lt_of_cell q3) id).trans q3
                      have q4 := (hC.cell (lt_of_cell q4) id).trans q4
                      have e0 := (hC.cell (lt_of_cell e0) id).trans e0
                      go_simp
                      rfl
                  (try simp only [Act.put, List.setIfInBounds_toArray, List.set_cons_zero, List.set_cons_succ])
                  refine grow_eff rfl rfl rfl (fun w' hC hK => ?_) (fun v21 hv21 => ?_)
                  · unfold growAt
                    go_simp
                    refine grow_call ((HPK.out w').mono ?_)
                    rintro e w'' ⟨rfl, h1⟩
                    exact ⟨_, rfl, h1, rfl⟩
                  obtain ⟨_, _, rfl⟩ := hv21.head
                  iterate 3
                    (try simp only [Act.put, List.setIfInBounds_toArray, List.set_cons_zero, List.set_cons_succ])
                    refine grow_run rfl rfl rfl ?_
                    apply Exists.intro
                    refine ⟨fun w' hC hK => ?_, ?_⟩
                    · go_simp
                      rfl
                  iterate 3
                    (try simp only [Act.put, List.setIfInBounds_toArray, List.set_cons_zero, List.set_cons_succ])
                    refine grow_run rfl rfl rfl ?_
                    apply Exists.intro
                    refine ⟨fun w' hC hK => ?_, ?_⟩
                    · go_simp
                      rfl
                  iterate 3
                    (try simp only [Act.put, List.setIfInBounds_toArray, List.set_cons_zero, List.set_cons_succ])
                    refine grow_run rfl rfl rfl ?_
                    apply Exists.intro
                    refine ⟨fun w' hC hK => ?_, ?_⟩
                    · go_simp
                      rfl
                  refine grow_nil fun w2 hC _ => ?_
                  have HE2 := hid (hEj.ext (show Ext wr w2 from hC))
                  clear hC hEj q0 q1 q2 q3 q4 e0
                  have HJ := hid (show j + 1 ≤ y.o.length from hlt)
                  clear hk hv7 hv21
                  go_wp2_with fail
                  have hkx := HKX.out
                  have hj1 := HJ.out
                  have ew : wrap64 ((j : Int) + 1) = ((j + 1 : Nat) : Int) := by unfold wrap64; omega
                  rw [ew]
                  exact ⟨⟨j + 1, hj1, rfl, HE2.out⟩, Nat.sub_lt_sub_left hlt (Nat.lt_succ_self j)⟩
            · obtain rfl : j = y.o.length := by omega
              replace HL := hid (HL.out.ext ETok.ok hEj)
              replace HM := hid (HM.out.ext ETok.ok hEj)
              replace HEW := hid (HEW.out.ext hEj)
              replace HBy := hid (HBy.out.keep hEj id)
              replace HVy := hid (HVy.out.ext hEj)
              clear hEj
              have HW := hid (fun (w' : World) (hC : Ext wr w') (m : V) (v : Value) (h : VAt w' (fun q => q ≠ w7.heap.size) v m) => lawwith_ok y.o K m (fun q => q ≠ w7.heap.size) Ay2 cy2 v w' (VAt.ext HVy.out hC).fields h (by have := HKX.out; omega))
              obtain ⟨qy0, qy1, qy2, qy3, qy4⟩ := blk5 HBy.out
              go_wp2_with fail
              refine wp_region_parts [0] [1, 2, 3, 4, 5, 6, 7] [8] (specOf [(3, fun v _ => v = .string K), (5, ValMade w7.heap.size), (6, WithMade w7.heap.size y.o K)]) (fun w' => Ext wr w')
                (stable_cons (fun v w w' h he => h) (stable_cons (fun v w w' h he => ValMade.ext h he) (stable_cons (fun v w w' h he => WithMade.ext h he) stable_nil))) (stableC_ext _) (by kernel_rfl) (by kernel_rfl) (Keep.drew (Keep.refl _ _)) ?_
              iterate 1
                (try simp only [Act.put, List.setIfInBounds_toArray, List.set_cons_zero, List.set_cons_succ])
                refine pure_run rfl rfl ?_
                apply Exists.intro
                refine ⟨fun w' => ?_, ?_⟩
                · go_simp
                  rfl
              refine pure_nil ?_
              iterate 2
                (try simp only [Act.put, List.setIfInBounds_toArray, List.set_cons_zero, List.set_cons_succ])
                refine growP_run rfl rfl rfl ?_
                apply Exists.intro
                refine ⟨fun w' hC hK => ?_, ?_⟩
                · have qy0 := (hC.cell (lt_of_cell qy0) id).trans qy0
                  have qy1 := (hC.cell (lt_of_cell qy1) id).trans qy1
                  have qy2 := (hC.cell (lt_of_cell qy2) id).trans qy2
                  have qy3 := (hC.cell (lt_of_cell qy3) id).trans qy3
                  have qy4 := (hC.cell (lt_of_cell qy4) id).trans qy4
                  go_simp
                  rfl
              (try simp only [Act.put, List.setIfInBounds_toArray, List.set_cons_zero, List.set_cons_succ])
              refine growP_eff rfl rfl rfl (fun w' hC hK => ?_) (fun v3 hv3 => ?_)
              · unfold growAt
                go_simp
                refine grow_call ((HPK.out w').mono ?_)
                rintro e w'' ⟨rfl, h1⟩
                exact ⟨_, rfl, h1, rfl⟩
              obtain ⟨_, _, rfl⟩ := hv3.head
              iterate 1
                (try simp only [Act.put, List.setIfInBounds_toArray, List.set_cons_zero, List.set_cons_succ])
                refine growP_run rfl rfl rfl ?_
                apply Exists.intro
                refine ⟨fun w' hC hK => ?_, ?_⟩
                · go_simp
                  rfl
              (try simp only [Act.put, List.setIfInBounds_toArray, List.set_cons_zero, List.set_cons_succ])
              refine growP_eff rfl rfl rfl (fun w' hC hK => ?_) (fun v5 hv5 => ?_)
              · have hb := (HBy.out.keep hC id).lt
                unfold growAt
                go_simp
                refine grow_call ((build_ok ms _ _ w' (HM.out.ext ETok.ok hC)).mono ?_)
                rintro e w'' ⟨u, m, rfl, h1, _, h2, h3⟩
                exact ⟨_, rfl, h3, m, h1, h2.more fun q _ h => by show q ≠ w7.heap.size; omega⟩
              (try simp only [Act.put, List.setIfInBounds_toArray, List.set_cons_zero, List.set_cons_succ])
              refine growP_eff rfl rfl rfl (fun w' hC hK => ?_) (fun v6 hv6 => ?_)
              · obtain ⟨m, hm1, hm2⟩ : ValMade w7.heap.size v5 w' := hK (5, _) List.mem_cons_self (by kernel_rfl)
                have hb := (HBy.out.keep hC id).lt
                have hw := HW.out w' hC m v5 hm2
                unfold growAt
                go_simp
                refine grow_call (hw.mono ?_)
                rintro e w'' ⟨u, rfl, h1, h2⟩
                exact ⟨_, rfl, h2, m, hm1, (h1.sl EField.ok).more EField.ok fun q _ h => h.elim (fun h => h.1) fun h => by have := (h1.lt h).1; show q ≠ w7.heap.size; omega⟩
              iterate 1
                (try simp only [Act.put, List.setIfInBounds_toArray, List.set_cons_zero, List.set_cons_succ])
                refine growP_run rfl rfl rfl ?_
                apply Exists.intro
                refine ⟨fun w' hC hK => ?_, ?_⟩
                · go_simp
                  rfl
              refine growP_nil fun wq hC hK => ?_
              have hC : Ext wr wq := hC
              obtain ⟨m, hm1, hm2⟩ : WithMade w7.heap.size y.o K v6 wq := hK (6, _) List.mem_cons_self
              obtain ⟨A3, c3, rfl, h3l, h3m⟩ := hm2.shape
              have hb := HBy.out.keep hC id
              have hk5 : Keep (· = w7.heap.size) wq (wq.setCell ⟨w7.heap.size, 4, none⟩ (.slice A3 (withL y.o K m).length c3)) := (Keep.refl _ _).set1 4 _
              have HEF := hid ((HEW.out.ext hC).trans hk5 fun k hk e => by have := HWB.out; omega)
              have hz := with_at (hb.set_ 4 (.slice A3 (withL y.o K m).length c3)) (VAt.swap (VAt.ext HVy.out hC) hm2 hk5) (sv_with HSY.out.1 HSY.out.2.2 hm1 HKA.out) (fieldIs_with y.o K m)
              obtain ⟨z, Az1, cz1, Az2, cz2, hB, hV, hS, hI⟩ := hz
              have HBz := hid hB
              have HVz := hid hV
              have HSZ := hid (And.intro hS hI)
              obtain ⟨r0, r1, r2, r3, r4⟩ := blk5 hb
              have f4 := hb.frozen 4
              clear hB hV hS hI hk5 hm1 hm2 hC hK hb hv3 hv5 hv6 qy0 qy1 qy2 qy3 qy4
              change wpList _ _ _ (_ :: []) _ _
              (try simp only [Act.put, List.setIfInBounds_toArray, List.set_cons_zero, List.set_cons_succ])
              go_wp2
              refine NoPanic.normal ?_
              change Exit.then _ _ Exit.normal _ (wq.setCell ⟨w7.heap.size, 4, none⟩ (.slice A3 (withL y.o K m).length c3))
              generalize wq.setCell ⟨w7.heap.size, 4, none⟩ (.slice A3 (withL y.o K m).length c3) = wf at *
              clear r0 r1 r2 r3 r4 f4
              obtain ⟨qz0, qz1, qz2, qz3, qz4⟩ := blk5 HBz.out
              go_wp2_with fail
              refine wp_region_grow (specOf [(2, fun v _ => v = .string K), (3, fun v _ => v = .tuple #[.int .i64 (fieldL z.o K : Int), .bool true])]) (fun w' => Ext wf w') (stable_cons (fun v w w' h he => h) (stable_cons (fun v w w' h he => h) stable_nil)) (stableC_ext _) (by kernel_rfl) (by kernel_rfl) (Keep.drew (Keep.refl _ _)) ?_
              iterate 2
                (try simp only [Act.put, List.setIfInBounds_toArray, List.set_cons_zero, List.set_cons_succ])
                refine grow_run rfl rfl rfl ?_
                apply Exists.intro
                refine ⟨fun w' hC hK => ?_, ?_⟩
                · have qz0 := (hC.cell (lt_of_cell qz0) id).trans qz0
                  have qz1 := (hC.cell (lt_of_cell qz1) id).trans qz1
                  have qz2 := (hC.cell (lt_of_cell qz2) id).trans qz2
                  have qz3 := (hC.cell (lt_of_cell qz3) id).trans qz3
                  have qz4 := (hC.cell (lt_of_cell qz4) id).trans qz4
                  go_simp
                  rfl
              (try simp only [Act.put, List.setIfInBounds_toArray, List.set_cons_zero, List.set_cons_succ])
              refine grow_eff rfl rfl rfl (fun w' hC hK => ?_) (fun v2 hv2 => ?_)
              · unfold growAt
                go_simp
                refine grow_call ((HPK.out w').mono ?_)
                rintro e w'' ⟨rfl, h1⟩
                exact ⟨_, rfl, h1, rfl⟩
              obtain ⟨_, _, rfl⟩ := hv2.head
              (try simp only [Act.put, List.setIfInBounds_toArray, List.set_cons_zero, List.set_cons_succ])
              refine grow_eff rfl rfl rfl (fun w' hC hK => ?_) (fun v3 hv3 => ?_)
              · unfold growAt
                go_simp
                refine grow_call (((field_val _ _ _ z K (VAt.ext HVz.out hC)).mono (fun e w' h => by rw [HSZ.out.2] at h; exact h)).mono ?_)
                rintro e w'' ⟨rfl, h1⟩
                exact ⟨_, rfl, h1, rfl⟩
              obtain ⟨_, _, rfl⟩ := hv3.head
              iterate 5
                (try simp only [Act.put, List.setIfInBounds_toArray, List.set_cons_zero, List.set_cons_succ])
                refine grow_run rfl rfl rfl ?_
                apply Exists.intro
                refine ⟨fun w' hC hK => ?_, ?_⟩
                · go_simp
                  rfl
              refine grow_nil fun wg hC _ => ?_
              have hC : Ext wf wg := hC
              replace HEF := hid (HEF.out.ext hC)
              replace HBz := hid (HBz.out.keep hC id)
              replace HVz := hid (VAt.ext HVz.out hC)
              clear hC qz0 qz1 qz2 qz3 qz4
              obtain ⟨qz0, qz1, qz2, qz3, qz4⟩ := blk5 HBz.out
              go_wp2_with fail
              refine (sound_any w HVA.out _ z (Nat.le_refl _) (SV.big HSZ.out.1) _ _ _ HEF.out HVz.out).mono ?_
              rw [SV.snd _ HSZ.out.1]
              rintro e wh ⟨rfl, hE⟩
              replace HEF := hid (HEF.out.ext hE)
              clear hE qz0 qz1 qz2 qz3 qz4
              go_wp2
              go_ret
              exact ⟨by first | rfl | simp, HEF.out⟩
        · have hkd : ((x.kind.toNat : Int) != 5) = false := by assumption
          have hX : Ext w7 (w7.alloc (.cells #[U8 x.kind, .int .i64 x.n, .string x.s, .slice Ax1 x.l.length cx1, .slice Ax2 x.o.length cx2] TVAL)) := (Keep.refl _ _).alloc _
          have hex : ∃ (y : V) (A1 : Option Addr) (c1 : Nat) (A2 : Option Addr) (c2 : Nat), Blk (w7.alloc (.cells #[U8 x.kind, .int .i64 x.n, .string x.s, .slice Ax1 x.l.length cx1, .slice Ax2 x.o.length cx2] TVAL)) w7.heap.size TVAL #[U8 y.kind, .int .i64 y.n, .string y.s, .slice A1 y.l.length c1, .slice A2 y.o.length c2] ∧ VAt (w7.alloc (.cells #[U8 x.kind, .int .i64 x.n, .string x.s, .slice Ax1 x.l.length cx1, .slice Ax2 x.o.length cx2] TVAL)) (fun q => q ≠ w7.heap.size) (.agg #[U8 y.kind, .int .i64 y.n, .string y.s, .slice A1 y.l.length c1, .slice A2 y.o.length c2]) y ∧ SV y ∧ y.size ≤ 250 ∧ y.kind = 5 := ⟨x, _, _, _, _, Blk.new _ _ _, VAt.ext HVx.out hX, HSx.out.1, by have := HSx.out.2; omega, by
            have h : (x.kind.toNat : Int) = 5 := by simpa using hkd
            exact UInt8.toNat_inj.1 (by show x.kind.toNat = 5; omega)⟩
          replace HL := hid (HL.out.ext ETok.ok hX)
          replace HM := hid (HM.out.ext ETok.ok hX)
          replace HEW := hid (HEW.out.ext hX)
          clear hX hkd
          generalize (w7.alloc (.cells #[U8 x.kind, .int .i64 x.n, .string x.s, .slice Ax1 x.l.length cx1, .slice Ax2 x.o.length cx2] TVAL)) = w8 at *
          obtain ⟨y, Ay1, cy1, Ay2, cy2, hB, hV, hS, hZ, hD⟩ := hex
          have HBy := hid hB
          have HVy := hid hV
          have HSY := hid (And.intro hS (And.intro hZ hD))
          clear hB hV hS hZ hD
          obtain ⟨qy0, qy1, qy2, qy3, qy4⟩ := blk5 HBy.out
          go_wp2_with fail
          refine wp_region_grow (specOf [(2, fun v _ => v = .string K), (3, fun v _ => v = .tuple #[.int .i64 (fieldL y.o K : Int), .bool (fieldIs y.o K)])]) (fun w' => Ext w8 w') (stable_cons (fun v w w' h he => h) (stable_cons (fun v w w' h he => h) stable_nil)) (stableC_ext _) (by kernel_rfl) (by kernel_rfl) (Keep.drew (Keep.refl _ _)) ?_
          iterate 2
            (try simp only [Act.put, List.setIfInBounds_toArray, List.set_cons_zero, List.set_cons_succ])
            refine grow_run rfl rfl rfl ?_
            apply Exists.intro
            refine ⟨fun w' hC hK => ?_, ?_⟩
            · have qy0 := (hC.cell (lt_of_cell qy0) id).trans qy0
              have qy1 := (hC.cell (lt_of_cell qy1) id).trans qy1
              have qy2 := (hC.cell (lt_of_cell qy2) id).trans qy2
              have qy3 := (hC.cell (lt_of_cell qy3) id).trans qy3
              have qy4 := (hC.cell (lt_of_cell qy4) id).trans qy4
              go_simp
              rfl
          (try simp only [Act.put, List.setIfInBounds_toArray, List.set_cons_zero, List.set_cons_succ])
          refine grow_eff rfl rfl rfl (fun w' hC hK => ?_) (fun v2 hv2 => ?_)
          · unfold growAt
            go_simp
            refine grow_call ((HPK.out w').mono ?_)
            rintro e w'' ⟨rfl, h1⟩
            exact ⟨_, rfl, h1, rfl⟩
          obtain ⟨_, _, rfl⟩ := hv2.head
          (try simp only [Act.put, List.setIfInBounds_toArray, List.set_cons_zero, List.set_cons_succ])
          refine grow_eff rfl rfl rfl (fun w' hC hK => ?_) (fun v3 hv3 => ?_)
          · unfold growAt
            go_simp
            refine grow_call ((field_val _ _ _ y K (VAt.ext HVy.out hC)).mono ?_)
            rintro e w'' ⟨rfl, h1⟩
            exact ⟨_, rfl, h1, rfl⟩
          obtain ⟨_, _, rfl⟩ := hv3.head
          iterate 5
            (try simp only [Act.put, List.setIfInBounds_toArray, List.set_cons_zero, List.set_cons_succ])
            refine grow_run rfl rfl rfl ?_
            apply Exists.intro
            refine ⟨fun w' hC hK => ?_, ?_⟩
            · go_simp
              rfl
          refine grow_nil fun wa hC _ => ?_
          have hC : Ext w8 wa := hC
          replace HL := hid (HL.out.ext ETok.ok hC)
          replace HM := hid (HM.out.ext ETok.ok hC)
          replace HEW := hid (HEW.out.ext hC)
          replace HBy := hid (HBy.out.keep hC id)
          replace HVy := hid (HVy.out.ext hC)
          clear hC qy0 qy1 qy2 qy3 qy4
          have HFL := hid (fun (j : Nat) (hj : j < y.o.length) => keys_at (rise_of HSY.out.1) K hj)
          generalize hfl : fieldL y.o K = fl at *
          generalize hfi : fieldIs y.o K = fi at *
          have HKX := hid (show y.o.length ≤ 1000 from by have := o_small HSY.out.2.1; omega)
          clear hfl hfi
          go_wp2
          go_loopw [10] (fun i wr => ∃ j : Nat, j ≤ y.o.length ∧ i = .int .i64 j ∧ Ext wa wr) (fun i _ => y.o.length - (intOf i).toNat)
          case atStart => exact ⟨0, by omega, rfl, Keep.refl _ _⟩
          case round =>
            obtain ⟨j, hj, rfl, hEj⟩ := hrel
            obtain ⟨q0, q1, q2, q3, q4⟩ := blk5 (HBy.out.keep hEj id)
            have HVr := hid (VAt.ext HVy.out hEj)
            by_cases hlt : j < y.o.length
            · have hltX : (j : Int) < y.o.length := by omega
              obtain ⟨b1, o1, c0, hA2, _, _, hrd, hcell⟩ := HVr.out.fields.at_ EField.ok hlt
              have hk := HFL.out j hlt
              generalize y.o[j]'hlt = m at *
              obtain ⟨lv, ov, rfl, ⟨A1, d1, rfl⟩, ⟨A2, d2, rfl⟩, _⟩ := EField_cells hrd
              have e0 := hcell 0 _ rfl
              have hz : EField.size = 6 := rfl
              simp only [hz, Nat.add_zero] at e0
              clear hz hcell hrd
              subst hA2
              cases fi with
              | false =>
                simp only [Bool.false_and] at hk
                go_wp2_with fail
                refine wp_region_grow (specOf [(7, fun v _ => v = .string K), (21, fun v _ => v = .string K)]) (fun w' => Ext wr w') (stable_cons (fun v w w' h he => h) (stable_cons (fun v w w' h he => h) stable_nil)) (stableC_ext _) (by kernel_rfl) (by kernel_rfl) (Keep.drew (Keep.refl _ _)) ?_
                iterate 7
                  (try simp only [Act.put, List.setIfInBounds_toArray, List.set_cons_zero, List.set_cons_succ])
                  refine grow_run rfl rfl rfl ?_
                  apply Exists.intro
                  refine ⟨fun w' hC hK => ?_, ?_⟩
                  · have q0 := (hC.cell (lt_of_cell q0) id).trans q0
                    have q1 := (hC.cell (lt_of_cell q1) id).trans q1
                    have q2 := (hC.cell (lt_of_cell q2) id).trans q2
                    have q3 := (hC.cell (lt_of_cell q3) id).trans q3
                    have q4 := (hC.cell (lt_of_cell q4) id).trans q4
                    have e0 := (hC.cell (lt_of_cell e0) id).trans e0
                    go_simp
                    rfl
                (try simp only [Act.put, List.setIfInBounds_toArray, List.set_cons_zero, List.set_cons_succ])
                refine grow_eff rfl rfl rfl (fun w' hC hK => ?_) (fun v7 hv7 => ?_)
                · unfold growAt
                  go_simp
                  refine grow_call ((HPK.out w').mono ?_)
                  rintro e w'' ⟨rfl, h1⟩
                  exact ⟨_, rfl, h1, rfl⟩
                obtain ⟨_, _, rfl⟩ := hv7.head
                iterate 13
                  (try simp only [Act.put, List.setIfInBounds_toArray, List.set_cons_zero, List.set_cons_succ])
                  refine grow_run rfl rfl rfl ?_
                  apply Exists.intro
                  refine ⟨fun w' hC hK => ?_, ?_⟩
                  · have q0 := (hC.cell (lt_of_cell q0) id).trans q0
                    have q1 := (hC.cell (lt_of_cell q1) id).trans q1
                    have q2 := (hC.cell (lt_of_cell q2) id).trans q2
                    have q3 := (hC.cell (lt_of_cell q3) id).trans q3
                    have q4 := (hC.cell (lt_of_cell q4) id).trans q4
                    have e0 := (hC.cell (lt_of_cell e0) id).trans e0
                    go_simp
                    rfl
                (try simp only [Act.put, List.setIfInBounds_toArray, List.set_cons_zero, List.set_cons_succ])
                refine grow_eff rfl rfl rfl (fun w' hC hK => ?_) (fun v21 hv21 => ?_)
                · unfold growAt
                  go_simp
                  refine grow_call ((HPK.out w').mono ?_)
                  rintro e w'' ⟨rfl, h1⟩
                  exact ⟨_, rfl, h1, rfl⟩
                obtain ⟨_, _, rfl⟩ := hv21.head
                iterate 3
                  (try simp only [Act.put, List.setIfInBounds_toArray, List.set_cons_zero, List.set_cons_succ])
                  refine grow_run rfl rfl rfl ?_
                  apply Exists.intro
                  refine ⟨fun w' hC hK => ?_, ?_⟩
                  · go_simp
                    rfl
                iterate 3
                  (try simp only [Act.put, List.setIfInBounds_toArray, List.set_cons_zero, List.set_cons_succ])
                  with_reducible refine grow_skip ?_ ?_ ?_
                  · rfl
                  · rfl
                iterate 3
                  (try simp only [Act.put, List.setIfInBounds_toArray, List.set_cons_zero, List.set_cons_succ])
                  refine grow_run rfl rfl rfl ?_
                  apply Exists.intro
                  refine ⟨fun w' hC hK => ?_, ?_⟩
                  · go_simp
                    rfl
                refine grow_nil fun w2 hC _ => ?_
                have HE2 := hid (hEj.ext (show Ext wr w2 from hC))
                clear hC hEj q0 q1 q2 q3 q4 e0
                have HJ := hid (show j + 1 ≤ y.o.length from hlt)
                clear hk hv7 hv21
                go_wp2_with fail
                have hkx := HKX.out
                have hj1 := HJ.out
                have ew : wrap64 ((j : Int) + 1) = ((j + 1 : Nat) : Int) := by unfold wrap64; omega
                rw [ew]
                exact ⟨⟨j + 1, hj1, rfl, HE2.out⟩, Nat.sub_lt_sub_left hlt (Nat.lt_succ_self j)⟩
              | true =>
                by_cases hjf : j = fl
                · subst hjf
                  simp only [Bool.true_and, decide_true] at hk
                  go_wp2_with fail
                  refine wp_region_grow (specOf [(7, fun v _ => v = .string K), (21, fun v _ => v = .string K)]) (fun w' => Ext wr w') (stable_cons (fun v w w' h he => h) (stable_cons (fun v w w' h he => h) stable_nil)) (stableC_ext _) (by kernel_rfl) (by kernel_rfl) (Keep.drew (Keep.refl _ _)) ?_
                  iterate 7
                    (try simp only [Act.put, List.setIfInBounds_toArray, List.set_cons_zero, List.set_cons_succ])
                    refine grow_run rfl rfl rfl ?_
                    apply Exists.intro
                    refine ⟨fun w' hC hK => ?_, ?_⟩
                    · have q0 := (hC.cell (lt_of_cell q0) id).trans q0
                      have q1 := (hC.cell (lt_of_cell q1) id).trans q1
                      have q2 := (hC.cell (lt_of_cell q2) id).trans q2
                      have q3 := (hC.cell (lt_of_cell q3) id).trans q3
                      have q4 := (hC.cell (lt_of_cell q4) id).trans q4
                      have e0 := (hC.cell (lt_of_cell e0) id).trans e0
                      go_simp
                      rfl
                  (try simp only [Act.put, List.setIfInBounds_toArray, List.set_cons_zero, List.set_cons_succ])
                  refine grow_eff rfl rfl rfl (fun w' hC hK => ?_) (fun v7 hv7 => ?_)
                  · unfold growAt
                    go_simp
                    refine grow_call ((HPK.out w').mono ?_)
                    rintro e w'' ⟨rfl, h1⟩
                    exact ⟨_, rfl, h1, rfl⟩
                  obtain ⟨_, _, rfl⟩ := hv7.head
                  iterate 13
                    (try simp only [Act.put, List.setIfInBounds_toArray, List.set_cons_zero, List.set_cons_succ])
                    refine grow_run rfl rfl rfl ?_
                    apply Exists.intro
                    refine ⟨fun w' hC hK => ?_, ?_⟩
                    · have q0 := (hC.cell (lt_of_cell q0) id).trans q0
                      have q1 := (hC.cell (lt_of_cell q1) id).trans q1
                      have q2 := (hC.cell (lt_of_cell q2) id).trans q2
                      have q3 := (hC.cell (lt_of_cell q3) id).trans q3
                      have q4 := (hC.cell (lt_of_cell q4) id).trans q4
                      have e0 := (hC.cell (lt_of_cell e0) id).trans e0
                      go_simp
                      rfl
                  (try simp only [Act.put, List.setIfInBounds_toArray, List.set_cons_zero, List.set_cons_succ])
                  refine grow_eff rfl rfl rfl (fun w' hC hK => ?_) (fun v21 hv21 => ?_)
                  · unfold growAt
                    go_simp
                    refine grow_call ((HPK.out w').mono ?_)
                    rintro e w'' ⟨rfl, h1⟩
                    exact ⟨_, rfl, h1, rfl⟩
                  obtain ⟨_, _, rfl⟩ := hv21.head
                  iterate 3
                    (try simp only [Act.put, List.setIfInBounds_toArray, List.set_cons_zero, List.set_cons_succ])
                    refine grow_run rfl rfl rfl ?_
                    apply Exists.intro
                    refine ⟨fun w' hC hK => ?_, ?_⟩
                    · go_simp
                      rfl
                  iterate 3
                    (try simp only [Act.put, List.setIfInBounds_toArray, List.set_cons_zero, List.set_cons_succ])
                    refine grow_run rfl rfl rfl ?_
                    apply Exists.intro
                    refine ⟨fun w' hC hK => ?_, ?_⟩
                    · go_simp
                      rfl
                  iterate 3
                    (try simp only [Act.put, List.setIfInBounds_toArray, List.set_cons_zero, List.set_cons_succ])
                    refine grow_run rfl rfl rfl ?_
                    apply Exists.intro
                    refine ⟨fun w' hC hK => ?_, ?_⟩
                    · go_simp
                      rfl
                  refine grow_nil fun w2 hC _ => ?_
                  have HE2 := hid (hEj.ext (show Ext wr w2 from hC))
                  clear hC hEj q0 q1 q2 q3 q4 e0
                  have HJ := hid (show j + 1 ≤ y.o.length from hlt)
                  clear hk hv7 hv21
                  go_wp2_with fail
                  have hkx := HKX.out
                  have hj1 := HJ.out
                  have ew : wrap64 ((j : Int) + 1) = ((j + 1 : Nat) : Int) := by unfold wrap64; omega
                  rw [ew]
                  exact ⟨⟨j + 1, hj1, rfl, HE2.out⟩, Nat.sub_lt_sub_left hlt (Nat.lt_succ_self j)⟩
                · have hjX : ¬ (j : Int) = fl := by omega
                  have hjY : ((j : Int) == (fl : Int)) = false := by simp [hjX]
                  simp only [Bool.true_and, hjf, decide_false] at hk
                  go_wp2_with fail
                  refine wp_region_grow (specOf [(7, fun v _ => v = .string K), (21, fun v _ => v = .string K)]) (fun w' => Ext wr w') (stable_cons (fun v w w' h he => h) (stable_cons (fun v w w' h he => h) stable_nil)) (stableC_ext _) (by kernel_rfl) (by kernel_rfl) (Keep.drew (Keep.refl _ _)) ?_
                  iterate 7
                    (try simp only [Act.put, List.setIfInBounds_toArray, List.set_cons_zero, List.set_cons_succ])
                    refine grow_run rfl rfl rfl ?_
                    apply Exists.intro
                    refine ⟨fun w' hC hK => ?_, ?_⟩
                    · have q0 := (hC.cell (lt_of_cell q0) id).trans q0
                      have q1 := (hC.cell (lt_of_cell q1) id).trans q1
                      have q2 := (hC.cell (lt_of_cell q2) id).trans q2
                      have q3 := (hC.cell (lt_of_cell q3) id).trans q3
                      have q4 := (hC.cell (lt_of_cell q4) id).trans q4
                      have e0 := (hC.cell (lt_of_cell e0) id).trans e0
                      go_simp
                      rfl
                  (try simp only [Act.put, List.setIfInBounds_toArray, List.set_cons_zero, List.set_cons_succ])
                  refine grow_eff rfl rfl rfl (fun w' hC hK => ?_) (fun v7 hv7 => ?_)
                  · unfold growAt
                    go_simp
                    refine grow_call ((HPK.out w').mono ?_)
                    rintro e w'' ⟨rfl, h1⟩
                    exact ⟨_, rfl, h1, rfl⟩
                  obtain ⟨_, _, rfl⟩ := hv7.head
                  iterate 13
                    (try simp only [Act.put, List.setIfInBounds_toArray, List.set_cons_zero, List.set_cons_succ])
                    refine grow_run rfl rfl rfl ?_
                    apply Exists.intro
                    refine ⟨fun w' hC hK => ?_, ?_⟩
                    · have q0 := (hC.cell (lt_of_cell q0) id).trans q0
                      have q1 := (hC.cell (lt_of_cell q1) id).trans q1
                      have q2 := (hC.cell (lt_of_cell q2) id).trans q2
                      have q3 := (hC.cell (lt_of_cell q3) id).trans q3
                      have q4 := (hC.cell (lt_of_cell q4) id).trans q4
                      have e0 := (hC.cell (lt_of_cell e0) id).trans e0
                      go_simp
                      rfl
                  (try simp only [Act.put, List.setIfInBounds_toArray, List.set_cons_zero, List.set_cons_succ])
                  refine grow_eff rfl rfl rfl (fun w' hC hK => ?_) (fun v21 hv21 => ?_)
                  · unfold growAt
                    go_simp
                    refine grow_call ((HPK.out w').mono ?_)
                    rintro e w'' ⟨rfl, h1⟩
                    exact ⟨_, rfl, h1, rfl⟩
                  obtain ⟨_, _, rfl⟩ := hv21.head
                  iterate 3
                    (try simp only [Act.put, List.setIfInBounds_toArray, List.set_cons_zero, List.set_cons_succ])
                    refine grow_run rfl rfl rfl ?_
                    apply Exists.intro
                    refine ⟨fun w' hC hK => ?_, ?_⟩
                    · go_simp
                      rfl
                  iterate 3
                    (try simp only [Act.put, List.setIfInBounds_toArray, List.set_cons_zero, List.set_cons_succ])
                    refine grow_run rfl rfl rfl ?_
                    apply Exists.intro
                    refine ⟨fun w' hC hK => ?_, ?_⟩
                    · go_simp
                      rfl
                  iterate 3
                    (try simp only [Act.put, List.setIfInBounds_toArray, List.set_cons_zero, List.set_cons_succ])
                    refine grow_run rfl rfl rfl ?_
                    apply Exists.intro
                    refine ⟨fun w' hC hK => ?_, ?_⟩
                    · go_simp
                      rfl
                  refine grow_nil fun w2 hC _ => ?_
                  have HE2 := hid (hEj.ext (show Ext wr w2 from hC))
                  clear hC hEj q0 q1 q2 q3 q4 e0
                  have HJ := hid (show j + 1 ≤ y.o.length from hlt)
                  clear hk hv7 hv21
                  go_wp2_with fail
                  have hkx := HKX.out
                  have hj1 := HJ.out
                  have ew : wrap64 ((j : Int) + 1) = ((j + 1 : Nat) : Int) := by unfold wrap64; omega
                  rw [ew]
                  exact ⟨⟨j + 1, hj1, rfl, HE2.out⟩, Nat.sub_lt_sub_left hlt (Nat.lt_succ_self j)⟩
            · obtain rfl : j = y.o.length := by omega
              replace HL := hid (HL.out.ext ETok.ok hEj)
              replace HM := hid (HM.out.ext ETok.ok hEj)
              replace HEW := hid (HEW.out.ext hEj)
              replace HBy := hid (HBy.out.keep hEj id)
              replace HVy := hid (HVy.out.ext hEj)
              clear hEj
              have HW := hid (fun (w' : World) (hC : Ext wr w') (m : V) (v : Value) (h : VAt w' (fun q => q ≠ w7.heap.size) v m) => lawwith_ok y.o K m (fun q => q ≠ w7.heap.size) Ay2 cy2 v w' (VAt.ext HVy.out hC).fields h (by have := HKX.out; omega))
              obtain ⟨qy0, qy1, qy2, qy3, qy4⟩ := blk5 HBy.out
              go_wp2_with fail
              refine wp_region_parts [0] [1, 2, 3, 4, 5, 6, 7] [8] (specOf [(3, fun v _ => v = .string K), (5, ValMade w7.heap.size), (6, WithMade w7.heap.size y.o K)]) (fun w' => Ext wr w')
                (stable_cons (fun v w w' h he => h) (stable_cons (fun v w w' h he => ValMade.ext h he) (stable_cons (fun v w w' h he => WithMade.ext h he) stable_nil))) (stableC_ext _) (by kernel_rfl) (by kernel_rfl) (Keep.drew (Keep.refl _ _)) ?_
              iterate 1
                (try simp only [Act.put, List.setIfInBounds_toArray, List.set_cons_zero, List.set_cons_succ])
                refine pure_run rfl rfl ?_
                apply Exists.intro
                refine ⟨fun w' => ?_, ?_⟩
                · go_simp
                  rfl
              refine pure_nil ?_
              iterate 2
                (try simp only [Act.put, List.setIfInBounds_toArray, List.set_cons_zero, List.set_cons_succ])
                refine growP_run rfl rfl rfl ?_
                apply Exists.intro
                refine ⟨fun w' hC hK => ?_, ?_⟩
                · have qy0 := (hC.cell (lt_of_cell qy0) id).trans qy0
                  have qy1 := (hC.cell (lt_of_cell qy1) id).trans qy1
                  have qy2 := (hC.cell (lt_of_cell qy2) id).trans qy2
                  have qy3 := (hC.cell (lt_of_cell qy3) id).trans qy3
                  have qy4 := (hC.cell (lt_of_cell qy4) id).trans qy4
                  go_simp
                  rfl
              (try simp only [Act.put, List.setIfInBounds_toArray, List.set_cons_zero, List.set_cons_succ])
              refine growP_eff rfl rfl rfl (fun w' hC hK => ?_) (fun v3 hv3 => ?_)
              · unfold growAt
                go_simp
                refine grow_call ((HPK.out w').mono ?_)
                rintro e w'' ⟨rfl, h1⟩
                exact ⟨_, rfl, h1, rfl⟩
              obtain ⟨_, _, rfl⟩ := hv3.head
              iterate 1
                (try simp only [Act.put, List.setIfInBounds_toArray, List.set_cons_zero, List.set_cons_succ])
                refine growP_run rfl rfl rfl ?_
                apply Exists.intro
                refine ⟨fun w' hC hK => ?_, ?_⟩
                · go_simp
                  rfl
              (try simp only [Act.put, List.setIfInBounds_toArray, List.set_cons_zero, List.set_cons_succ])
              refine growP_eff rfl rfl rfl (fun w' hC hK => ?_) (fun v5 hv5 => ?_)
              · have hb := (HBy.out.keep hC id).lt
                unfold growAt
                go_simp
                refine grow_call ((build_ok ms _ _ w' (HM.out.ext ETok.ok hC)).mono ?_)
                rintro e w'' ⟨u, m, rfl, h1, _, h2, h3⟩
                exact ⟨_, rfl, h3, m, h1, h2.more fun q _ h => by show q ≠ w7.heap.size; omega⟩
              (try simp only [Act.put, List.setIfInBounds_toArray, List.set_cons_zero, List.set_cons_succ])
              refine growP_eff rfl rfl rfl (fun w' hC hK => ?_) (fun v6 hv6 => ?_)
              · obtain ⟨m, hm1, hm2⟩ : ValMade w7.heap.size v5 w' := hK (5, _) List.mem_cons_self (by kernel_rfl)
                have hb := (HBy.out.keep hC id).lt
                have hw := HW.out w' hC m v5 hm2
                unfold growAt
                go_simp
                refine grow_call (hw.mono ?_)
                rintro e w'' ⟨u, rfl, h1, h2⟩
                exact ⟨_, rfl, h2, m, hm1, (h1.sl EField.ok).more EField.ok fun q _ h => h.elim (fun h => h.1) fun h => by have := (h1.lt h).1; show q ≠ w7.heap.size; omega⟩
              iterate 1
                (try simp only [Act.put, List.setIfInBounds_toArray, List.set_cons_zero, List.set_cons_succ])
                refine growP_run rfl rfl rfl ?_
                apply Exists.intro
                refine ⟨fun w' hC hK => ?_, ?_⟩
                · go_simp
                  rfl
              refine growP_nil fun wq hC hK => ?_
              have hC : Ext wr wq := hC
              obtain ⟨m, hm1, hm2⟩ : WithMade w7.heap.size y.o K v6 wq := hK (6, _) List.mem_cons_self
              obtain ⟨A3, c3, rfl, h3l, h3m⟩ := hm2.shape
              have hb := HBy.out.keep hC id
              have hk5 : Keep (· = w7.heap.size) wq (wq.setCell ⟨w7.heap.size, 4, none⟩ (.slice A3 (withL y.o K m).length c3)) := (Keep.refl _ _).set1 4 _
              have HEF := hid ((HEW.out.ext hC).trans hk5 fun k hk e => by have := HWB.out; omega)
              have hz := with_at (hb.set_ 4 (.slice A3 (withL y.o K m).length c3)) (VAt.swap (VAt.ext HVy.out hC) hm2 hk5) (sv_with HSY.out.1 HSY.out.2.2 hm1 HKA.out) (fieldIs_with y.o K m)
              obtain ⟨z, Az1, cz1, Az2, cz2, hB, hV, hS, hI⟩ := hz
              have HBz := hid hB
              have HVz := hid hV
              have HSZ := hid (And.intro hS hI)
              obtain ⟨r0, r1, r2, r3, r4⟩ := blk5 hb
              have f4 := hb.frozen 4
              clear hB hV hS hI hk5 hm1 hm2 hC hK hb hv3 hv5 hv6 qy0 qy1 qy2 qy3 qy4
              change wpList _ _ _ (_ :: []) _ _
              (try simp only [Act.put, List.setIfInBounds_toArray, List.set_cons_zero, List.set_cons_succ])
              go_wp2
              refine NoPanic.normal ?_
              change Exit.then _ _ Exit.normal _ (wq.setCell ⟨w7.heap.size, 4, none⟩ (.slice A3 (withL y.o K m).length c3))
              generalize wq.setCell ⟨w7.heap.size, 4, none⟩ (.slice A3 (withL y.o K m).length c3) = wf at *
              clear r0 r1 r2 r3 r4 f4
              obtain ⟨qz0, qz1, qz2, qz3, qz4⟩ := blk5 HBz.out
              go_wp2_with fail
              refine wp_region_grow (specOf [(2, fun v _ => v = .string K), (3, fun v _ => v = .tuple #[.int .i64 (fieldL z.o K : Int), .bool true])]) (fun w' => Ext wf w') (stable_cons (fun v w w' h he => h) (stable_cons (fun v w w' h he => h) stable_nil)) (stableC_ext _) (by kernel_rfl) (by kernel_rfl) (Keep.drew (Keep.refl _ _)) ?_
              iterate 2
                (try simp only [Act.put, List.setIfInBounds_toArray, List.set_cons_zero, List.set_cons_succ])
                refine grow_run rfl rfl rfl ?_
                apply Exists.intro
                refine ⟨fun w' hC hK => ?_, ?_⟩
                · have qz0 := (hC.cell (lt_of_cell qz0) id).trans qz0
                  have qz1 := (hC.cell (lt_of_cell qz1) id).trans qz1
                  have qz2 := (hC.cell (lt_of_cell qz2) id).trans qz2
                  have qz3 := (hC.cell (lt_of_cell qz3) id).trans qz3
                  have qz4 := (hC.cell (lt_of_cell qz4) id).trans qz4
                  go_simp
                  rfl
              (try simp only [Act.put, List.setIfInBounds_toArray, List.set_cons_zero, List.set_cons_succ])
              refine grow_eff rfl rfl rfl (fun w' hC hK => ?_) (fun v2 hv2 => ?_)
              · unfold growAt
                go_simp
                refine grow_call ((HPK.out w').mono ?_)
                rintro e w'' ⟨rfl, h1⟩
                exact ⟨_, rfl, h1, rfl⟩
              obtain ⟨_, _, rfl⟩ := hv2.head
              (try simp only [Act.put, List.setIfInBounds_toArray, List.set_cons_zero, List.set_cons_succ])
              refine grow_eff rfl rfl rfl (fun w' hC hK => ?_) (fun v3 hv3 => ?_)
              · unfold growAt
                go_simp
                refine grow_call (((field_val _ _ _ z K (VAt.ext HVz.out hC)).mono (fun e w' h => by rw [HSZ.out.2] at h; exact h)).mono ?_)
                rintro e w'' ⟨rfl, h1⟩
                exact ⟨_, rfl, h1, rfl⟩
              obtain ⟨_, _, rfl⟩ := hv3.head
              iterate 5
                (try simp only [Act.put, List.setIfInBounds_toArray, List.set_cons_zero, List.set_cons_succ])
                refine grow_run rfl rfl rfl ?_
                apply Exists.intro
                refine ⟨fun w' hC hK => ?_, ?_⟩
                · go_simp
                  rfl
              refine grow_nil fun wg hC _ => ?_
              have hC : Ext wf wg := hC
              replace HEF := hid (HEF.out.ext hC)
              replace HBz := hid (HBz.out.keep hC id)
              replace HVz := hid (VAt.ext HVz.out hC)
              clear hC qz0 qz1 qz2 qz3 qz4
              obtain ⟨qz0, qz1, qz2, qz3, qz4⟩ := blk5 HBz.out
              go_wp2_with fail
              refine (sound_any w HVA.out _ z (Nat.le_refl _) (SV.big HSZ.out.1) _ _ _ HEF.out HVz.out).mono ?_
              rw [SV.snd _ HSZ.out.1]
              rintro e wh ⟨rfl, hE⟩
              replace HEF := hid (HEF.out.ext hE)
              clear hE qz0 qz1 qz2 qz3 qz4
              go_wp2
              go_ret
              exact ⟨by first | rfl | simp, HEF.out⟩
theorem keys_lift {Q0 Q2 : Prop} (lv : Value) (ts : List Tk) (key : ByteArray) (mv : Value) (ms : List Tk) (w : World) (h0 : Sl ETok w (fun k => k < w.heap.size) lv ts) (q0 : Q0) (q1 : key.size ≤ reachBytes) (h2 : Sl ETok w (fun k => k < w.heap.size) mv ms) (q2 : Q2) (hv : ValAny w) :
    Calls Tryd.prog 8 #[lv, .string key, mv] w fun e w' => e = .returned (.bool true) ∧ Below w.heap.size w w' :=
  (keys_walk lv mv ts ms key w (h0.more ETok.ok fun _ _ _ => trivial) (h2.more ETok.ok fun _ _ _ => trivial)  hv).mono fun e w' h => ⟨h.1, h.2.toBelow⟩
end Go.Proofs.YtaemmabaekjkeaaDoor
