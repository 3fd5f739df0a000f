/- What is read is new memory: the walk. -/
import Derived.Test.YtikophoopapngaaDiskL
set_option linter.unusedSimpArgs false
set_option linter.unusedVariables false
namespace Go.Proofs.Ytikophoopapngaa
open Go.RowKit Go.Maps
set_option linter.unusedVariables false

set_option maxHeartbeats 400000 in
theorem clone_own (v : Value) (l : List UInt8) (S : BS) (w : World) (hv : BytesS w S v l) (hl : l.length ≤ 140737488355328) :
    Calls Try.prog 32 #[v] w fun e w' => ∃ v', e = .returned v' ∧ Own EU8 w' w.heap.size 5 (fun _ => False) v' l ∧ Ext w w' := by
  obtain ⟨A, c, rfl, h1, h2⟩ := hv.shape
  unfold maxLen at h2
  cases A with
  | none =>
    have hn : l = [] := by
      obtain ⟨cs, ⟨_, A', c', e, _, _, h3⟩, _⟩ := hv
      rcases Nat.eq_zero_or_pos l.length with h0 | h0
      · exact List.eq_nil_of_length_eq_zero h0
      · obtain ⟨b, off, e', _⟩ := h3 h0
        injection e with e1 _ _
        rw [e'] at e1
        cases e1
    subst hn
    have heq := Lib.run_eql_slice_nil (P := Try.prog) w 23 5 none 0 c 0 0 Try.underlying23
    rw [List.length_nil]
    go_enter Try.func32, Try.ntmps32
    go_wp2
    go_ret
    exact ⟨_, rfl, Own.nil _ _ _ _, Keep.refl _ _⟩
  | some a =>
    have heq := Lib.run_eql_slice_nil (P := Try.prog) w 23 5 (some a) l.length c 0 0 Try.underlying23
    have hown : Own EU8 (w.alloc (.cells #[] 5)) w.heap.size 5 (fun _ => False) (.slice (some ⟨w.heap.size, 0, none⟩) 0 0) [] :=
      .inr ⟨w.heap.size, 0, #[], rfl, Nat.le_refl _, Blk.new _ _ _, by simp, by simp [maxLen], by simp, rfl⟩
    have hsrc := (hv.more (S' := fun k => S k ∧ k < w.heap.size) EU8.ok (fun k hk hs => ⟨hs, hk⟩)).ext EU8.ok ((Keep.refl _ _).alloc (.cells #[] 5))
    go_enter Try.func32, Try.ntmps32
    go_wp2_with (at_builtin; refine wpList_own_append _ rfl (.tmp 5) (.tmp 6) EU8.ok ty_u8 rfl rfl rfl hown hsrc ?c1 ?c2 ?c3 ?c4 ?_)
    case c1 => intro g hg; have hg : w.heap.size = g := Option.some.inj hg; exact ⟨id, fun h => by have := h.2; omega⟩
    case c2 => simp; omega
    case c3 => simp [maxLen]; omega
    case c4 => simp
    intro v' w' hown' hk hb
    have hE : Ext w w' := ((Keep.refl (fun _ => False) w).alloc _).trans hk (fun k hlt e => by have e : w.heap.size = k := Option.some.inj e; omega)
    have H := hid (own_u8 (S' := fun _ => False) hown')
    clear hown' hb hsrc hown
    go_wp2
    go_ret
    exact ⟨_, rfl, H.out, hE⟩
def ReadOwn (w : World) (cs : List DC) (name : List UInt8) (e : Ending) (w' : World) : Prop := ∃ A k, e = .returned (.tuple #[.slice A (readR cs name).2.length k, .int .u16 (readR cs name).1]) ∧ Own EU8 w' w.heap.size 5 (fun _ => False) (.slice A (readR cs name).2.length k) (readR cs name).2 ∧ Ext w w'
set_option maxHeartbeats 1600000 in
theorem disk_read_own (w : World) (B : BS) (d : Nat) (cs : List DC) (s : DSt) (name : ByteArray) (h : DiskIs w B d cs s) (hz : name.size ≤ maxLen) :
    Calls Try.prog 14 #[.pointer (some ⟨d, 0, none⟩), .string name] w (ReadOwn w cs name.data.toList) := by
  obtain ⟨h0, m, fs, hd, rfl⟩ := h
  have hlook := hd.map.look (name := name) hz
  obtain ⟨c0, _, _, _⟩ := hd.cells
  have hpe := eql_pfi
  have HD := hid hd
  have HOK := hid h0
  obtain ⟨o, ho⟩ : ∃ o, findF fs name.data.toList = o := ⟨_, rfl⟩
  rw [ho] at hlook
  have HO := hid ho
  clear ho hd h0 hz
  cases o with
  | none =>
    replace hlook : (Instr.lookup TMAP (.map (some m)) (.string name) false).run Try.prog w = .ok (.pointer none) w := hlook
    have HR := hid (show readR (fs.map DF.c) name.data.toList = (131, []) by unfold readR; rw [findC_map, HO.out]; rfl)
    go_enter Try.func14, Try.ntmps14
    go_wp2_with fail
    refine bodyPost_ret (v := .tuple #[.slice none 0 0, .int .u16 131]) (by simp [results, Try.results14, go_sem]) rfl ?_
    unfold ReadOwn
    rw [HR.out]
    exact ⟨none, 0, rfl, Own.nil _ _ _ _, Keep.refl _ _⟩
  | some f =>
    replace hlook : (Instr.lookup TMAP (.map (some m)) (.string name) false).run Try.prog w = .ok (.pointer (some ⟨f.blk, 0, none⟩)) w := hlook
    have HR := hid (show readR (fs.map DF.c) name.data.toList = (0, f.c.b) by unfold readR; rw [findC_map, HO.out]; rfl)
    have hmem := (findF_some HO.out).1
    obtain ⟨A, k, q0, q1, hs, _, _, _, _⟩ := (HD.out.files f hmem).2.cells
    have HS := hid hs
    have HU := hid (show f.c.b.length ≤ 1048576 from Nat.le_trans (mem_usedC (List.mem_map_of_mem (f := DF.c) hmem)) (Nat.le_trans HOK.out.used HOK.out.room))
    clear hs hmem
    go_enter Try.func14, Try.ntmps14
    go_wp2_with fail
    refine (clone_own _ _ _ _ HS.out (by have := HU.out; omega)).mono ?_
    rintro e w2 ⟨v', rfl, hb, hE⟩
    obtain ⟨A2, k2, rfl, _⟩ := hb.shape
    have HB := hid hb
    have HE := hid hE
    clear hb hE hlook c0 q0 q1
    go_wp2_with fail
    refine bodyPost_ret (v := .tuple #[.slice A2 f.c.b.length k2, .int .u16 0]) (by simp [results, Try.results14, go_sem]) rfl ?_
    unfold ReadOwn
    rw [HR.out]
    exact ⟨A2, k2, rfl, HB.out, HE.out⟩

/-- Bytes in a block of one's own that may be written. -/
def MutIs (w : World) (A : Option Addr) (n : Nat) : Prop := 0 < n → ∃ g cur, A = some ⟨g, 0, none⟩ ∧ Blk w g 5 cur ∧ ∀ j, j < n → ∃ z : Int, cur[j]? = some (.int .u8 z)
theorem MutIs.of_own {w : World} {base : Nat} {S : BS} {A : Option Addr} {n c : Nat} {l : List UInt8} (h : Own EU8 w base 5 S (.slice A n c) l) (hn : n = l.length) : MutIs w A n := by
  intro h0
  rcases h with ⟨e, rfl⟩ | ⟨g, cap, cur, e, h1, h2, h3, h4, h5, h6⟩
  · simp at hn; omega
  · injection e with e1 e2 e3
    refine ⟨g, cur, e1, h2, fun j hj => ?_⟩
    have hc := cells_U8 h6
    have hjl : j < l.length := by omega
    have h7 : (cur.toList.take (l.length * EU8.size))[j]? = some (U8 (l[j]'hjl)) := by rw [hc, List.getElem?_map, List.getElem?_eq_getElem hjl]; rfl
    rw [List.getElem?_take_of_lt (by show j < l.length * 1; omega)] at h7
    exact ⟨_, by simpa using h7⟩
theorem MutIs.keep {F : Nat → Prop} {w w' : World} {A : Option Addr} {n : Nat} (h : MutIs w A n) (hk : Keep F w w') (hF : ∀ g, A = some ⟨g, 0, none⟩ → ¬ F g) : MutIs w' A n := by
  intro h0
  obtain ⟨g, cur, e, h1, h2⟩ := h h0
  exact ⟨g, cur, e, h1.keep hk (hF g e), h2⟩
theorem MutIs.store {w : World} {g n : Nat} {cur : Array Value} (h1 : Blk w g 5 cur) (h2 : ∀ j, j < n → ∃ z : Int, cur[j]? = some (.int .u8 z)) (i : Nat) (z : Int) : MutIs (w.setCell ⟨g, i, none⟩ (.int .u8 z)) (some ⟨g, 0, none⟩) n := by
  intro _
  refine ⟨g, _, rfl, h1.set_ i _, fun j hj => ?_⟩
  obtain ⟨y, hy⟩ := h2 j hj
  by_cases e : i = j
  · subst e
    have := (Array.getElem?_eq_some_iff.1 hy).1
    exact ⟨z, by simp [this]⟩
  · exact ⟨y, by rw [Array.getElem?_setIfInBounds_ne e]; exact hy⟩
theorem DskW.other {F : Nat → Prop} {w0 w w' : World} {B : BS} {d : Nat} {cs : List DC} {s : DSt} (h : DskW w0 w B d cs s) (hk : Keep F w w') (hB : ∀ k, B k → ¬ F k) (hF : ∀ k, F k → w0.heap.size ≤ k) : DskW w0 w' B d cs s :=
  ⟨h.is.keep hk hB, fun k hb => ⟨(h.low k hb).1, Nat.lt_of_lt_of_le (h.low k hb).2 hk.size⟩, h.ext.trans hk fun k hk hf => by have := hF k hf; omega⟩

set_option maxRecDepth 20000 in
set_option maxHeartbeats 12800000 in
theorem own_walk (bv : Value) (b : List UInt8) (w : World) (hb : BytesS w (fun k => k < w.heap.size) bv b) :
    Calls Try.prog 4 #[bv] w fun e w' => e = .returned (.bool true) ∧ Ext w w' := by
  obtain ⟨A2, c2, rfl, hc2, hm2⟩ := hb.shape
  have HB := hid hb
  have HEND := hid (show ∀ wx, Ext w wx → Calls Try.prog 9 #[] wx fun e w' => e = .returned (.bool true) ∧ Ext w w' from fun wx h => (known13_ok wx).mono fun e w' h2 => ⟨h2.1, h.ext h2.2⟩)
  clear hb
  have hpe := eql_pdsk
  by_cases h1 : 1000 < b.length
  · have h1X : decide (1000 < (b.length : Int)) = true := by simp; omega
    go_enter Try.func4, Try.ntmps4
    go_wp2_with fail
    refine (HEND.out _ (Keep.refl _ _)).mono ?_
    rintro e w2 ⟨rfl, hz⟩
    have HZ := hid hz
    clear hz
    go_wp2
    go_ret
    exact ⟨rfl, HZ.out⟩
  · have h1X : decide (1000 < (b.length : Int)) = false := by simp; omega
    have HN := hid (show b.length ≤ 1000 by omega)
    go_enter Try.func4, Try.ntmps4
    go_wp2_with fail
    refine (known13_ok _).mono ?_
    rintro e w1 ⟨rfl, hE⟩
    have HE := hid hE
    clear hE HEND h1X h1
    go_wp2_with fail
    refine (disk_new_w w w1 5000 (by decide) HE.out).mono ?_
    rintro e w2 ⟨d, B, rfl, hD, _, hE⟩
    have HD := hid hD
    replace HE := hid (HE.out.ext hE)
    clear hD hE
    go_wp2_with fail
    refine (disk_new_w w w2 5000 (by decide) HE.out).mono ?_
    rintro e w3 ⟨d', B', rfl, hD', hlo, hE⟩
    have HD' := hid hD'
    have HAP := hid (show ∀ k, B' k → ¬ B k from fun k hk h => by have := hlo k hk; have := (HD.out.low k h).2; omega)
    replace HD := hid (HD.out.more hE)
    clear hD' hE hlo HE
    generalize hn : b.length = n at *
    have HNE := hid hn
    clear hn
    go_wp2_with (at_builtin; refine wpList_append_bytes (v := .slice none 0 0) (y := .slice A2 n c2) (xs := []) (ys := b) (base := w3.heap.size) (S2 := fun k => k < w.heap.size) rfl (.tmp 30) (.tmp 31) ty_u8 rfl rfl rfl (Own.nil _ _ _ _) (HB.out.ext EU8.ok HD.out.ext) (fun g hg => by simp [Value.ownBlock] at hg) (by have := HN.out; have := HNE.out; simp; omega) (Nat.le_refl _) ?_)
    intro Ao co w4 hown hlo hco hk
    have hn0 : b.length = n := HNE.out
    rw [hn0] at hown hlo
    try rw [hn0]
    have hE4 : Ext w3 w4 := hk.mono fun k _ h => by simp [Value.ownBlock] at h
    have HOG := hid (show ∀ g, Ao = some ⟨g, 0, none⟩ → w3.heap.size ≤ g ∧ g < w4.heap.size from fun g e => by subst e; exact hown.lt rfl)
    have HMU := hid (MutIs.of_own hown HNE.out.symm)
    have HOW := hid ((hown.sl EU8.ok).more (S' := fun k => w3.heap.size ≤ k) EU8.ok fun k _ h => by
      rcases h with h | h
      · exact h.elim
      · exact (hown.lt h).1)
    have HNB := hid (show ∀ g, Ao = some ⟨g, 0, none⟩ → ¬ B g ∧ ¬ B' g ∧ w.heap.size ≤ g from fun g e => by
      have h1 := HOG.out g e
      exact ⟨fun h => by have := (HD.out.low g h).2; omega, fun h => by have := (HD'.out.low g h).2; omega, Nat.le_trans HD.out.ext.size h1.1⟩)
    replace HD := hid (HD.out.more hE4)
    replace HD' := hid (HD'.out.more hE4)
    clear hown hk hn0 hE4
    go_wp2_with fail
    refine (disk_append _ _ _ _ _ ⟨#[120]⟩ _ b _ HD.out.is HOW.out (by decide)).mono ?_
    rintro e w5 ⟨he, hd, hk⟩
    rw [one_app (by have := HN.out; have := HNE.out; omega) rfl] at he hd
    obtain rfl : e = .returned (.int .u16 0) := he
    have hD : DskW w w5 _ d [⟨[120], b, 0⟩] ⟨5000, false, -1⟩ := HD.out.grow hk hd
    have hnb : ∀ g, Ao = some ⟨g, 0, none⟩ → ¬ moreB B w4 w5 g := fun g e h => by
      rcases h with h | h
      · exact (HNB.out g e).1 h
      · have := (HOG.out g e).2; omega
    have hap5 : ∀ k, B' k → ¬ moreB B w4 w5 k := fun k h h2 => by
      rcases h2 with h2 | h2
      · exact HAP.out k h h2
      · have := (HD'.out.low k h).2; omega
    replace HD' := hid (HD'.out.other hk HAP.out fun k h => (HD.out.low k h).1)
    replace HAP := hid hap5
    clear hap5
    replace HMU := hid (HMU.out.keep hk fun g e => (HNB.out g e).1)
    have HNB2 := hid (show ∀ g, Ao = some ⟨g, 0, none⟩ → ¬ moreB B w4 w5 g ∧ ¬ B' g ∧ w.heap.size ≤ g from fun g e => ⟨hnb g e, (HNB.out g e).2⟩)
    generalize moreB B w4 w5 = B5 at *
    clear hd hk HOW hnb HNB
    replace HD := hid hD
    clear hD
    go_wp2_with fail
    go_loopw [6] (fun y wr => ∃ j : Nat, j ≤ n ∧ y = .int .i64 j ∧ MutIs wr Ao n ∧ Keep (fun k => Ao = some ⟨k, 0, none⟩) w5 wr) (fun y _ => n - (intOf y).toNat)
    case atStart => exact ⟨0, by omega, rfl, HMU.out, Keep.refl _ _⟩
    case round =>
      obtain ⟨j, hj, rfl, hmu, hk⟩ := hrel
      by_cases hlt : j < n
      · obtain ⟨g, cur, rfl, hblk, hcs⟩ := hmu (by omega)
        obtain ⟨z, hz⟩ := hcs j hlt
        have q := hblk.cell j
        rw [hz] at q
        have hzf := hblk.frozen
        have HM := hid (fun y : Int => MutIs.store hblk hcs j y)
        have HK := hid hk
        have hjX : (j : Int) < n := by omega
        have hn1 : n ≤ 1000 := HN.out
        clear hblk hcs hz hk hmu
        go_wp2
        exact ⟨⟨j + 1, by omega, by go_num, HM.out _, HK.out.trans ((Keep.refl (· = g) _).set1 j _) fun k _ e => by subst e; rfl⟩, by simp [intOf]; omega⟩
      · have hjX : ¬ (j : Int) < n := by omega
        have HK := hid hk
        clear hmu hk
        replace HD := hid (HD.out.other HK.out (fun k hb e => (HNB2.out k e).1 hb) fun k e => (HNB2.out k e).2.2)
        replace HD' := hid (HD'.out.other HK.out (fun k hb e => (HNB2.out k e).2.1 hb) fun k e => (HNB2.out k e).2.2)
        clear HK HMU HNB2 HOG
        go_wp2_with fail
        refine (disk_read_own _ _ _ _ _ ⟨#[120]⟩ HD.out.is (by decide)).mono ?_
        rintro e w7 ⟨A7, k7, he, hx, hk⟩
        rw [show (⟨#[120]⟩ : ByteArray).data.toList = [120] from rfl, one_read] at he hx
        replace he : e = .returned (.tuple #[.slice A7 b.length k7, .int .u16 0]) := he
        replace hx : Own EU8 w7 wr.heap.size 5 (fun _ => False) (.slice A7 b.length k7) b := hx
        rw [HNE.out] at he hx
        subst he
        have HMU := hid (MutIs.of_own hx HNE.out.symm)
        have HNB2 := hid (show ∀ g, A7 = some ⟨g, 0, none⟩ → ¬ B5 g ∧ ¬ B' g ∧ w.heap.size ≤ g from fun g e => by
          subst e
          have h1 : wr.heap.size ≤ g := (hx.lt rfl).1
          exact ⟨fun h => by have := (HD.out.low g h).2; omega, fun h => by have := (HD'.out.low g h).2; omega, Nat.le_trans HD.out.ext.size h1⟩)
        replace HD := hid (HD.out.more hk)
        replace HD' := hid (HD'.out.more hk)
        clear hx hk
        go_wp2_with fail
        go_loopw [9] (fun y wr => ∃ j : Nat, j ≤ n ∧ y = .int .i64 j ∧ MutIs wr A7 n ∧ Keep (fun k => A7 = some ⟨k, 0, none⟩) w7 wr) (fun y _ => n - (intOf y).toNat)
        case atStart => exact ⟨0, by omega, rfl, HMU.out, Keep.refl _ _⟩
        case round =>
          obtain ⟨j, hj, rfl, hmu, hk⟩ := hrel
          by_cases hlt : j < n
          · obtain ⟨g, cur, rfl, hblk, hcs⟩ := hmu (by omega)
            obtain ⟨z, hz⟩ := hcs j hlt
            have q := hblk.cell j
            rw [hz] at q
            have hzf := hblk.frozen
            have HM := hid (fun y : Int => MutIs.store hblk hcs j y)
            have HK := hid hk
            have hjX : (j : Int) < n := by omega
            have hn1 : n ≤ 1000 := HN.out
            clear hblk hcs hz hk hmu
            go_wp2
            exact ⟨⟨j + 1, by omega, by go_num, HM.out _, HK.out.trans ((Keep.refl (· = g) _).set1 j _) fun k _ e => by subst e; rfl⟩, by simp [intOf]; omega⟩
          · have hjX : ¬ (j : Int) < n := by omega
            have HK := hid hk
            clear hmu hk
            replace HD := hid (HD.out.other HK.out (fun k hb e => (HNB2.out k e).1 hb) fun k e => (HNB2.out k e).2.2)
            replace HD' := hid (HD'.out.other HK.out (fun k hb e => (HNB2.out k e).2.1 hb) fun k e => (HNB2.out k e).2.2)
            clear HK HMU HNB2
            go_wp2_with fail
            refine (disk_read _ _ _ _ _ ⟨#[120]⟩ HD.out.is (by decide)).mono ?_
            rintro e w8 ⟨A8, k8, he, hx, hk⟩
            rw [show (⟨#[120]⟩ : ByteArray).data.toList = [120] from rfl, one_read] at he hx
            replace he : e = .returned (.tuple #[.slice A8 b.length k8, .int .u16 0]) := he
            replace hx : BytesS w8 _ (.slice A8 b.length k8) b := hx
            rw [HNE.out] at he hx
            subst he
            have HY := hid hx
            replace HD := hid (HD.out.more hk)
            replace HD' := hid (HD'.out.more hk)
            clear hx hk
            go_wp2_with fail
            refine (disk_read _ _ _ _ _ ⟨#[120]⟩ HD'.out.is (by decide)).mono ?_
            rintro e w9 ⟨A9, k9, he, hx, hk⟩
            replace he : e = .returned (.tuple #[.slice A9 0 k9, .int .u16 131]) := he
            subst he
            have hcy := convert_bytesS (HY.out.ext EU8.ok hk)
            have hcb := convert_bytesS (HB.out.ext EU8.ok (HD.out.ext.ext hk))
            have HEZ := hid (HD.out.ext.ext hk)
            clear hx hk
            go_wp2
            go_ret
            exact ⟨by first | rfl | simp, HEZ.out⟩
theorem own_lift {Q0 : Prop} (bv : Value) (b : List UInt8) (w : World) (h0 : BytesS w (fun k => k < w.heap.size) bv b) (q0 : Q0) :
    Calls Try.prog 4 #[bv] w fun e w' => e = .returned (.bool true) ∧ Below w.heap.size w w' :=
  (own_walk bv b w h0).mono fun e w' h => ⟨h.1, h.2.toBelow⟩
end Go.Proofs.Ytikophoopapngaa
