/- path.Get, by contract. -/
import Derived.Test.YtjdpljjbgggpiaaDoorPathAtG
import Derived.Test.YtjdpljjbgggpiaaDoorValCopyT
set_option linter.unusedSimpArgs false
set_option linter.unusedVariables false
namespace Go.Proofs.YtjdpljjbgggpiaaDoor
open Go.RowKit
set_option linter.unusedVariables false

theorem child_size {v y : V} {loc : Loc} (h : v.child? loc = some y) : y.size ≤ v.size := by
  rw [V.size_eq v]
  cases loc with
  | l i =>
    rw [child_l] at h
    have := V.sizes_mem (List.mem_of_getElem? h)
    omega
  | o k =>
    rw [child_o] at h
    cases hf : v.o[k]? with
    | none => rw [hf] at h; cases h
    | some f =>
      rw [hf] at h
      obtain rfl : f.v = y := by simpa using h
      have := F.sizes_mem (List.mem_of_getElem? hf)
      omega
theorem getV_size : ∀ (p : List St) (v y : V), getV v p = some y → y.size ≤ v.size
  | [], v, y, h => by simp only [getV, Option.some.injEq] at h; subst h; exact Nat.le_refl _
  | s :: p, v, y, h => by
    simp only [getV] at h
    cases h1 : stepV v s with
    | none => rw [h1] at h; cases h
    | some loc =>
      rw [h1] at h
      simp only at h
      cases h2 : v.child? loc with
      | none => rw [h2] at h; cases h
      | some z =>
        rw [h2] at h
        exact Nat.le_trans (getV_size p z y h) (child_size h2)

theorem TV_turn {w1 w2 : World} {ob a : Nat} {x : V} {cs : List Value} (h : TV w1 x a w1.heap.size cs) (hk : Keep (· = ob) w1 w2) (ho : ob < a) : TV w2 x a w2.heap.size cs :=
  TV_mono (TV_keep hk _ _ _ _ (fun q hq _ e => by omega) h) (Nat.le_refl _) hk.size
theorem keep_ext1 {w w1 w2 : World} {ob : Nat} (hE : Ext w w1) (hk : Keep (· = ob) w1 w2) : Keep (· = ob) w w2 := (Keep.mono hE fun _ _ h => h.elim).trans hk fun _ _ h => h
set_option maxHeartbeats 800000 in
theorem get1_ok (w : World) (b off ob : Nat) (x : V) (S : BS) (cs : List Value) (cur : Array Value) (hat : At5 w b off cs) (hrd : rdV w S x cs) (hb : Blk w ob TVAL cur) (hcur : cur.size = 5) (hsz : x.size ≤ 1000000) :
    Calls Tryd.prog 28 #[.pointer (some ⟨b, off, none⟩), .pointer (some ⟨ob, 0, none⟩)] w fun e w' => e = .returned (.tuple #[]) ∧
      ∃ lv ov, Blk w' ob TVAL #[U8 x.kind, .int .i64 x.n, .string x.s, lv, ov] ∧ TV w' x w.heap.size w'.heap.size [U8 x.kind, .int .i64 x.n, .string x.s, lv, ov] ∧ Keep (· = ob) w w' := by
  obtain ⟨lv, ov, rfl, hl, ho⟩ := rdV_iff.1 hrd
  have hat0 := hat 0 _ rfl
  have hat1 := hat 1 _ rfl
  have hat2 := hat 2 _ rfl
  have hat3 := hat 3 _ rfl
  have hat4 := hat 4 _ rfl
  simp only [Nat.add_zero] at hat0
  obtain ⟨A, c, rfl, hlc, hcm⟩ := hl.shape
  obtain ⟨A', c', rfl, hlc', hcm'⟩ := ho.shape
  have HC := hid (copy_valT _ x (Nat.le_refl _) hsz (.agg #[U8 x.kind, .int .i64 x.n, .string x.s, .slice A x.l.length c, .slice A' x.o.length c']) S w ⟨_, _, rfl, hl, ho⟩)
  have HB := hid hb
  have HCU := hid hcur
  clear hat hrd hl ho hb hcur
  go_enter Tryd.func28, Tryd.ntmps28
  go_wp2_with fail
  refine HC.out.mono ?_
  rintro e w1 ⟨lv1, ov1, rfl, h1, hE⟩
  obtain ⟨⟨A1, d1, rfl⟩, ⟨A2, d2, rfl⟩⟩ := h1.shapes
  have HB1 := hid (HB.out.keep hE id)
  have c0 := HB1.out.cell 0
  have c1 := HB1.out.cell 1
  have c2 := HB1.out.cell 2
  have c3 := HB1.out.cell 3
  have c4 := HB1.out.cell 4
  have f0 := HB1.out.frozen 0
  have f1 := HB1.out.frozen 1
  have f2 := HB1.out.frozen 2
  have f3 := HB1.out.frozen 3
  have f4 := HB1.out.frozen 4
  have hcu := HCU.out
  rw [Array.getElem?_eq_getElem (by omega)] at c0 c1 c2 c3 c4
  have hk := set5_keep w1 ob 0 (U8 x.kind) (.int .i64 x.n) (.string x.s) (.slice A1 x.l.length d1) (.slice A2 x.o.length d2)
  have hob : ob < w.heap.size := HB.out.lt
  have hbr : Blk (set5 w1 ob 0 (U8 x.kind) (.int .i64 x.n) (.string x.s) (.slice A1 x.l.length d1) (.slice A2 x.o.length d2)) ob TVAL #[U8 x.kind, .int .i64 x.n, .string x.s, .slice A1 x.l.length d1, .slice A2 x.o.length d2] := by
    obtain ⟨cur', h5, h6⟩ := set5_blk HB1.out 0 (U8 x.kind) (.int .i64 x.n) (.string x.s) (.slice A1 x.l.length d1) (.slice A2 x.o.length d2) (by omega)
    have : cur' = #[U8 x.kind, .int .i64 x.n, .string x.s, .slice A1 x.l.length d1, .slice A2 x.o.length d2] := by
      apply Array.toList_inj.1
      rw [h6]
      simp [hcu]
    rw [this] at h5
    exact h5
  have h2 := TV_turn h1 hk hob
  have h3 := keep_ext1 hE hk
  have H := hid (And.intro hbr (And.intro h2 h3))
  clear h2 h3
  clear hk hbr h1 hE HB1
  go_wp2
  go_end0
  exact ⟨rfl, _, _, H.out.1, H.out.2.1, H.out.2.2⟩

/-- What Get hands back. -/
def GetIs (w : World) (r : Option V) (e : Ending) (w' : World) : Prop := match r with
  | none => e = .returned (.tuple #[ZVAL, .int .u16 30]) ∧ Ext w w'
  | some y => ∃ u, e = .returned (.tuple #[u, .int .u16 0]) ∧ TVat w' w.heap.size u y ∧ Ext w w'

set_option maxHeartbeats 1600000 in
theorem path_get (w : World) (u pv : Value) (v : V) (p : List St) (S S' : BS) (hu : VAt w S u v) (hp : Sl ESt w S' pv p) (hsz : v.size ≤ 1000000) :
    Calls Tryd.prog 14 #[u, pv] w fun e w' => GetIs w (getV v p) e w' := by
  obtain ⟨lv, ov, rfl, hl, ho⟩ := hu
  obtain ⟨A, c, rfl, hlc, hcm⟩ := hl.shape
  obtain ⟨A', c', rfl, hlc', hcm'⟩ := ho.shape
  obtain ⟨Ap, cp, rfl, _⟩ := hp.shape
  obtain ⟨w1, hw1⟩ : ∃ w1, w1 = w.alloc (.cells #[U8 v.kind, .int .i64 v.n, .string v.s, .slice A v.l.length c, .slice A' v.o.length c'] TVAL) := ⟨_, rfl⟩
  obtain ⟨w2, hw2⟩ : ∃ w2, w2 = w1.alloc (.cells #[.int .u8 0, .int .i64 0, .string ⟨#[]⟩, .slice none 0 0, .slice none 0 0] TVAL) := ⟨_, rfl⟩
  obtain ⟨w3, hw3⟩ : ∃ w3, w3 = w2.alloc (.cells #[.int .u8 0, .int .i64 0, .string ⟨#[]⟩, .slice none 0 0, .slice none 0 0] TVAL) := ⟨_, rfl⟩
  have hz1 : w1.heap.size = w.heap.size + 1 := by rw [hw1]; simp
  have hz2 : w2.heap.size = w.heap.size + 2 := by rw [hw2]; simp [hz1]
  have hE1 : Ext w w1 := by rw [hw1]; exact (Keep.refl _ _).alloc _
  have hE2 : Ext w1 w2 := by rw [hw2]; exact (Keep.refl _ _).alloc _
  have hE3 : Ext w2 w3 := by rw [hw3]; exact (Keep.refl _ _).alloc _
  have hb1 : Blk w3 w.heap.size TVAL #[U8 v.kind, .int .i64 v.n, .string v.s, .slice A v.l.length c, .slice A' v.o.length c'] := by
    have := Blk.new w TVAL #[U8 v.kind, .int .i64 v.n, .string v.s, .slice A v.l.length c, .slice A' v.o.length c']
    rw [← hw1] at this
    exact (this.keep hE2 id).keep hE3 id
  have hb2 : Blk w3 (w.heap.size + 1) TVAL #[.int .u8 0, .int .i64 0, .string ⟨#[]⟩, .slice none 0 0, .slice none 0 0] := by
    have := Blk.new w1 TVAL #[.int .u8 0, .int .i64 0, .string ⟨#[]⟩, .slice none 0 0, .slice none 0 0]
    rw [← hw2, hz1] at this
    exact this.keep hE3 id
  have hb3 : Blk w3 (w.heap.size + 2) TVAL #[.int .u8 0, .int .i64 0, .string ⟨#[]⟩, .slice none 0 0, .slice none 0 0] := by
    have := Blk.new w2 TVAL #[.int .u8 0, .int .i64 0, .string ⟨#[]⟩, .slice none 0 0, .slice none 0 0]
    rwa [← hw3, hz2] at this
  have hE : Ext w w3 := (hE1.ext hE2).ext hE3
  have hsz3 : w3.heap.size = w.heap.size + 3 := by rw [hw3]; simp [hz2]
  have HAT := hid (at_get (fun w' j b off x => getV v (p.take j) = some x ∧ (∃ cs, At5 w' b off cs ∧ rdV w' (fun _ => True) x cs) ∧ Blk w' (w.heap.size + 2) TVAL #[.int .u8 0, .int .i64 0, .string ⟨#[]⟩, .slice none 0 0, .slice none 0 0])
    (fun w1 b off x w' => ∃ lv ov, Blk w' (w.heap.size + 2) TVAL #[U8 x.kind, .int .i64 x.n, .string x.s, lv, ov] ∧ TV w' x w1.heap.size w'.heap.size [U8 x.kind, .int .i64 x.n, .string x.s, lv, ov] ∧ Keep (· = w.heap.size + 2) w1 w')
    w3 S' (.slice Ap p.length cp) (.pointer (some ⟨w.heap.size + 2, 0, none⟩)) p w.heap.size 0 v (hp.ext ESt.ok hE)
    ⟨by rfl, ⟨[U8 v.kind, .int .i64 v.n, .string v.s, .slice A v.l.length c, .slice A' v.o.length c'], fun j u hu => by rw [Nat.zero_add, hb1.cell]; simpa using hu, rdV_iff.2 ⟨_, _, rfl, (hl.ext EVal.ok hE).more EVal.ok fun _ _ _ => trivial, (ho.ext EField.ok hE).more EField.ok fun _ _ _ => trivial⟩⟩, hb3⟩
    (fun wa wb j b off x ⟨h1, ⟨cs, h2, h3⟩, h4⟩ he => ⟨h1, ⟨cs, fun j u hu => (he.cell (lt_of_cell (h2 j u hu)) id).trans (h2 j u hu), EVal.ok.keep h3 he fun _ _ x => x⟩, h4.keep he id⟩)
    (fun wa j hj b off x ⟨h1, ⟨cs, h2, h3⟩, h4⟩ => by
      obtain ⟨lv, ov, rfl, hl, ho⟩ := rdV_iff.1 h3
      refine ⟨lv, ov, _, _, h2, hl, ho, ?_⟩
      have hsn := getV_snoc (p.take j) v p[j]
      rw [List.take_append_getElem hj, h1, Option.bind_some] at hsn
      unfold NextI
      cases hst : stepV x p[j] with
      | none => trivial
      | some loc =>
        rw [hst, Option.bind_some] at hsn
        obtain ⟨y, hy⟩ := stepV_child hst
        rw [hy] at hsn
        cases loc with
        | l i =>
          rw [child_l] at hy
          have hi := (List.getElem?_eq_some_iff.1 hy).1
          obtain ⟨A3, c3, rfl, _⟩ := hl.shape
          obtain ⟨b1, o1, c0, rfl, _, _, hrd, hcell⟩ := hl.at_ EVal.ok hi
          rw [(List.getElem?_eq_some_iff.1 hy).2] at hrd
          exact ⟨b1, o1, c3, y, rfl, hsn, ⟨c0, hcell, hrd⟩, h4⟩
        | o k =>
          rw [child_o] at hy
          cases hf : x.o[k]? with
          | none => rw [hf] at hy; cases hy
          | some f =>
            rw [hf] at hy
            obtain rfl : f.v = y := by simpa using hy
            have hi := (List.getElem?_eq_some_iff.1 hf).1
            obtain ⟨A3, c3, rfl, _⟩ := ho.shape
            obtain ⟨b1, o1, c0, rfl, _, _, hrd, hcell⟩ := ho.at_ EField.ok hi
            rw [(List.getElem?_eq_some_iff.1 hf).2] at hrd
            obtain ⟨c1, rfl, hrd1⟩ := rdF_iff.1 hrd
            exact ⟨b1, o1, c3, f.v, rfl, hsn, ⟨c1, fun j u hu => by have := hcell (j + 1) u (by simpa using hu); rwa [show o1 + k * EField.size + (j + 1) = o1 + k * 6 + 1 + j from by show o1 + k * 6 + (j + 1) = _; omega] at this, hrd1⟩, h4⟩)
    (fun wa b off x ⟨h1, ⟨cs, h2, h3⟩, h4⟩ he => by
      have hx := getV_size _ _ _ h1
      exact get1_ok wa b off (w.heap.size + 2) x _ cs _ h2 h3 h4 rfl (by omega)))
  have HE := hid hE
  have HB2 := hid hb2
  have HB3 := hid hb3
  clear hE hb1 hb2 hb3 hE1 hE2 hE3 hl ho hp hlc hcm hlc' hcm' hz1 hz2
  have e3 : w3 = ((w.alloc (.cells #[U8 v.kind, .int .i64 v.n, .string v.s, .slice A v.l.length c, .slice A' v.o.length c'] TVAL)).alloc (.cells #[.int .u8 0, .int .i64 0, .string ⟨#[]⟩, .slice none 0 0, .slice none 0 0] TVAL)).alloc (.cells #[.int .u8 0, .int .i64 0, .string ⟨#[]⟩, .slice none 0 0, .slice none 0 0] TVAL) := by rw [hw3, hw2, hw1]
  clear hw1 hw2 hw3
  go_enter Tryd.func14, Tryd.ntmps14
  go_wp2_with fail
  change Calls _ _ _ (((w.alloc (.cells #[U8 v.kind, .int .i64 v.n, .string v.s, .slice A v.l.length c, .slice A' v.o.length c'] TVAL)).alloc (.cells #[.int .u8 0, .int .i64 0, .string ⟨#[]⟩, .slice none 0 0, .slice none 0 0] TVAL)).alloc (.cells #[.int .u8 0, .int .i64 0, .string ⟨#[]⟩, .slice none 0 0, .slice none 0 0] TVAL)) _
  rw [← e3]
  refine HAT.out.mono ?_
  rintro e w4 (⟨rfl, hE4, j, b, off, x, w5, hj, ⟨h1, _, _⟩, hst⟩ | ⟨rfl, w5, b, off, x, hE5, ⟨h1, _, _⟩, lv, ov, hb, ht, hk⟩)
  · have hg : getV v p = none := by
      have hsn := getV_append (p.take j) (p.drop j) v
      rw [List.take_append_drop, h1, Option.bind_some, List.drop_eq_getElem_cons hj] at hsn
      rw [hsn]
      simp only [getV, hst]
    have HG := hid hg
    have HO := hid (HB3.out.keep hE4 id)
    have HR := hid (HB2.out.keep hE4 id)
    have HE4 := hid (HE.out.ext hE4)
    clear hE4 h1 hst hg
    have o0 := HO.out.cell 0
    have o1 := HO.out.cell 1
    have o2 := HO.out.cell 2
    have o3 := HO.out.cell 3
    have o4 := HO.out.cell 4
    have r0 := HR.out.cell 0
    have r1 := HR.out.cell 1
    have r2 := HR.out.cell 2
    have r3 := HR.out.cell 3
    have r4 := HR.out.cell 4
    have f0 := HR.out.frozen 0
    have f1 := HR.out.frozen 1
    have f2 := HR.out.frozen 2
    have f3 := HR.out.frozen 3
    have f4 := HR.out.frozen 4
    simp at o0 o1 o2 o3 o4 r0 r1 r2 r3 r4
    have hk := set5_keep w4 (w.heap.size + 1) 0 (.int .u8 0) (.int .i64 0) (.string ⟨#[]⟩) (.slice none 0 0) (.slice none 0 0)
    have hbr : Blk (set5 w4 (w.heap.size + 1) 0 (.int .u8 0) (.int .i64 0) (.string ⟨#[]⟩) (.slice none 0 0) (.slice none 0 0)) (w.heap.size + 1) TVAL #[.int .u8 0, .int .i64 0, .string ⟨#[]⟩, .slice none 0 0, .slice none 0 0] := by
      obtain ⟨cur', h5, h6⟩ := set5_blk HR.out 0 (.int .u8 0) (.int .i64 0) (.string ⟨#[]⟩) (.slice none 0 0) (.slice none 0 0) (by simp)
      have : cur' = #[.int .u8 0, .int .i64 0, .string ⟨#[]⟩, .slice none 0 0, .slice none 0 0] := by
        apply Array.toList_inj.1
        rw [h6]
        simp
      rw [this] at h5
      exact h5
    have t0 := hbr.cell 0
    have t1 := hbr.cell 1
    have t2 := hbr.cell 2
    have t3 := hbr.cell 3
    have t4 := hbr.cell 4
    simp at t0 t1 t2 t3 t4
    have HT := hid (And.intro t0 (And.intro t1 (And.intro t2 (And.intro t3 t4))))
    have HE5 := hid (HE4.out.trans hk fun q hq e => by omega)
    clear t0 t1 t2 t3 t4 hbr hk
    go_wp2
    obtain ⟨t0, t1, t2, t3, t4⟩ := HT.out
    refine bodyPost_ret (v := .tuple #[ZVAL, .int .u16 30]) (by simp [results, Tryd.results14, go_sem, t0, t1, t2, t3, t4]) rfl ?_
    rw [HG.out]
    exact ⟨rfl, HE5.out⟩
  · rw [List.take_length] at h1
    have HG := hid h1
    obtain ⟨⟨A1, d1, rfl⟩, ⟨A2, d2, rfl⟩⟩ := ht.shapes
    have HO := hid hb
    have HR := hid ((HB2.out.keep hE5 id).keep hk (by omega))
    have HZ5 := hid (show w.heap.size + 3 ≤ w5.heap.size from by rw [← hsz3]; exact hE5.size)
    have HE4 := hid ((HE.out.ext hE5).trans hk fun q hq e => by omega)
    have HTV := hid ht
    clear hE5 h1 hb ht hk
    have o0 := HO.out.cell 0
    have o1 := HO.out.cell 1
    have o2 := HO.out.cell 2
    have o3 := HO.out.cell 3
    have o4 := HO.out.cell 4
    have r0 := HR.out.cell 0
    have r1 := HR.out.cell 1
    have r2 := HR.out.cell 2
    have r3 := HR.out.cell 3
    have r4 := HR.out.cell 4
    have f0 := HR.out.frozen 0
    have f1 := HR.out.frozen 1
    have f2 := HR.out.frozen 2
    have f3 := HR.out.frozen 3
    have f4 := HR.out.frozen 4
    simp at o0 o1 o2 o3 o4 r0 r1 r2 r3 r4
    have hk := set5_keep w4 (w.heap.size + 1) 0 (U8 x.kind) (.int .i64 x.n) (.string x.s) (.slice A1 x.l.length d1) (.slice A2 x.o.length d2)
    have hbr : Blk (set5 w4 (w.heap.size + 1) 0 (U8 x.kind) (.int .i64 x.n) (.string x.s) (.slice A1 x.l.length d1) (.slice A2 x.o.length d2)) (w.heap.size + 1) TVAL #[U8 x.kind, .int .i64 x.n, .string x.s, .slice A1 x.l.length d1, .slice A2 x.o.length d2] := by
      obtain ⟨cur', h5, h6⟩ := set5_blk HR.out 0 (U8 x.kind) (.int .i64 x.n) (.string x.s) (.slice A1 x.l.length d1) (.slice A2 x.o.length d2) (by simp)
      have : cur' = #[U8 x.kind, .int .i64 x.n, .string x.s, .slice A1 x.l.length d1, .slice A2 x.o.length d2] := by
        apply Array.toList_inj.1
        rw [h6]
        simp
      rw [this] at h5
      exact h5
    have t0 := hbr.cell 0
    have t1 := hbr.cell 1
    have t2 := hbr.cell 2
    have t3 := hbr.cell 3
    have t4 := hbr.cell 4
    simp at t0 t1 t2 t3 t4
    have HT := hid (And.intro t0 (And.intro t1 (And.intro t2 (And.intro t3 t4))))
    have HE5 := hid (HE4.out.trans hk fun q hq e => by omega)
    have HTV2 := hid (TV_mono (a' := w.heap.size) (TV_turn (TV_mono HTV.out (Nat.le_refl _) (Nat.le_refl _)) hk (by have := HZ5.out; omega)) (by have := HZ5.out; omega) (Nat.le_refl _))
    clear t0 t1 t2 t3 t4 hbr hk
    go_wp2
    obtain ⟨t0, t1, t2, t3, t4⟩ := HT.out
    refine bodyPost_ret (v := .tuple #[.agg #[U8 x.kind, .int .i64 x.n, .string x.s, .slice A1 x.l.length d1, .slice A2 x.o.length d2], .int .u16 0]) (by simp [results, Tryd.results14, go_sem, t0, t1, t2, t3, t4]) rfl ?_
    rw [HG.out]
    exact ⟨_, rfl, ⟨_, _, rfl, HTV2.out⟩, HE5.out⟩
end Go.Proofs.YtjdpljjbgggpiaaDoor
