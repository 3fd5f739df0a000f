/- GrowAid, LawPlain, MixVal, LawOneA: laid together. -/
import Derived.Test.YtioplgfopillnaaApB2
import Derived.Test.YtioplgfopillnaaApB5
import Derived.Test.YtioplgfopillnaaApB3
import Derived.Laws.Bits128
/- Small words for regions walked by 'wp_region_grow'. No program. -/
set_option linter.unusedSimpArgs false
set_option linter.unusedVariables false
namespace Go.Proofs.Ytioplgfopillnaa
open Go.RowKit

/-- A slice of elements, its form in sight. -/
def SlShape {α : Type} (E : El α) (w : World) (S : BS) (v : Value) (n : Nat) (xs : List α) : Prop := ∃ A c, v = .slice A n c ∧ Sl E w S v xs
theorem SlShape.ext {α : Type} {E : El α} (hE : E.Ok) {w w' : World} {S : BS} {v : Value} {n : Nat} {xs : List α} (h : SlShape E w S v n xs) (he : Ext w w') : SlShape E w' S v n xs := by
  obtain ⟨A, c, e, h⟩ := h; exact ⟨A, c, e, h.ext hE he⟩
theorem bytes_of_S {w : World} {S : BS} {v : Value} {l : List UInt8} {B : Nat} (h : BytesS w S v l) (hS : ∀ k, k < w.heap.size → S k → k < B) : Bytes w B v l := by
  obtain ⟨cs, ⟨h0, A, c, rfl, h1, h2, h3⟩, hc⟩ := h
  have hc := cells_U8 hc
  subst hc
  refine ⟨A, c, by simp, by simpa using h1, h2, fun hn => ?_⟩
  obtain ⟨b, off, e, hb, hlt, hcell⟩ := h3 (by simpa using hn)
  exact ⟨b, off, e, hS b hlt hb, hcell⟩
theorem bytes_all {w : World} {S : BS} {v : Value} {l : List UInt8} (h : BytesS w S v l) : Bytes w w.heap.size v l := bytes_of_S h fun _ h _ => h
/-- Two slices of bytes, in a new block. -/
theorem bytess_two {w : World} {S1 S2 : BS} {v1 v2 : Value} {l1 l2 : List UInt8} {t : TypeId} {f : Nat × Nat} (h1 : BytesS w S1 v1 l1) (h2 : BytesS w S2 v2 l2) :
    Bytess (w.alloc (.cells #[v1, v2] t f)) (w.heap.size + 1) (.slice (some ⟨w.heap.size, 0, none⟩) 2 2) [l1, l2] := by
  have hE : Ext w (w.alloc (.cells #[v1, v2] t f)) := (Keep.refl _ _).alloc _
  refine Bytess.two (u := v1) (u' := v2) (Row.new (w := w) (l := [v1, v2]) (by omega) (by simp [maxLen]) f) ?_ ?_
  · exact (bytes_all (h1.ext EU8.ok hE)).more (by simp)
  · exact (bytes_all (h2.ext EU8.ok hE)).more (by simp)
/-- A slice of slices of bytes, the parts in S. -/
abbrev EBytes : El (List UInt8) := ESl EU8
theorem EBytes.ok : EBytes.Ok := ESl.ok EU8.ok
theorem bytess_of_S {w : World} {S : BS} {v : Value} {ls : List (List UInt8)} (h : Sl EBytes w S v ls) : Bytess w w.heap.size v ls := by
  obtain ⟨A, c, rfl, h1, h2⟩ := h.shape
  have hat := fun (k : Nat) (hk : k < ls.length) => h.at_ EBytes.ok hk
  obtain ⟨cs, ⟨h0, A', c', e, h3, h4, h5⟩, hc⟩ := h
  injection e with e1 _ e3
  subst e1 e3
  have hn : cs.length = ls.length := by rw [h0]; show ls.length * 1 = _; omega
  refine ⟨cs, ⟨A, c, by rw [hn], by omega, h2, fun hp => ?_⟩, hn, fun i hi hi' => ?_⟩
  · obtain ⟨b, off, e, _, hlt, hcell⟩ := h5 (by omega)
    exact ⟨b, off, e, hlt, hcell⟩
  · obtain ⟨c0, hr, hg⟩ := hc.get EBytes.ok hi'
    obtain ⟨v0, rfl, hb⟩ := hr
    have := hg 0 _ rfl
    have e : cs[i] = v0 := by
      have h1 : cs[i]? = some v0 := by simpa [EBytes, ESl] using this
      rw [List.getElem?_eq_getElem hi] at h1
      exact Option.some.inj h1
    rw [e]; exact bytes_all hb
theorem sl_two {w : World} {S : BS} {v1 v2 : Value} {l1 l2 : List UInt8} {t : TypeId} {f : Nat × Nat} (h1 : BytesS w S v1 l1) (h2 : BytesS w S v2 l2) :
    Sl EBytes (w.alloc (.cells #[v1, v2] t f)) (fun k => S k ∨ k = w.heap.size) (.slice (some ⟨w.heap.size, 0, none⟩) 2 2) [l1, l2] := by
  have hE : Ext w (w.alloc (.cells #[v1, v2] t f)) := (Keep.refl _ _).alloc _
  have g : ∀ {v l}, BytesS w S v l → BytesS (w.alloc (.cells #[v1, v2] t f)) (fun k => S k ∨ k = w.heap.size) v l := fun h => (h.ext EU8.ok hE).more EU8.ok fun _ _ h => .inl h
  refine ⟨[v1, v2], (RowS.new (w := w) (sz := 1) (n := 2) (cs := [_, _]) rfl (by simp [maxLen]) f).more fun k _ e => .inr e, ?_⟩
  exact ⟨[v1], _, rfl, ⟨v1, rfl, g h1⟩, [v2], _, rfl, ⟨v2, rfl, g h2⟩, rfl⟩
theorem sl_three {w : World} {S : BS} {v1 v2 v3 : Value} {l1 l2 l3 : List UInt8} {t : TypeId} {f : Nat × Nat} (h1 : BytesS w S v1 l1) (h2 : BytesS w S v2 l2) (h3 : BytesS w S v3 l3) :
    Sl EBytes (w.alloc (.cells #[v1, v2, v3] t f)) (fun k => S k ∨ k = w.heap.size) (.slice (some ⟨w.heap.size, 0, none⟩) 3 3) [l1, l2, l3] := by
  have hE : Ext w (w.alloc (.cells #[v1, v2, v3] t f)) := (Keep.refl _ _).alloc _
  have g : ∀ {v l}, BytesS w S v l → BytesS (w.alloc (.cells #[v1, v2, v3] t f)) (fun k => S k ∨ k = w.heap.size) v l := fun h => (h.ext EU8.ok hE).more EU8.ok fun _ _ h => .inl h
  refine ⟨[v1, v2, v3], (RowS.new (w := w) (sz := 1) (n := 3) (cs := [_, _, _]) rfl (by simp [maxLen]) f).more fun k _ e => .inr e, ?_⟩
  exact ⟨[v1], _, rfl, ⟨v1, rfl, g h1⟩, [v2], _, rfl, ⟨v2, rfl, g h2⟩, [v3], _, rfl, ⟨v3, rfl, g h3⟩, rfl⟩
theorem bytes_any {w : World} {S : BS} {v : Value} {l : List UInt8} (h : BytesS w S v l) : BytesS w (fun _ => True) v l := h.more EU8.ok fun _ _ _ => trivial
theorem own_u8 {w : World} {base : Nat} {T : TypeId} {S S' : BS} {v : Value} {l : List UInt8} (h : Own EU8 w base T S v l) : Own EU8 w base T S' v l := by
  rcases h with h | ⟨g', cap, cur, e, h1, h2, h3, h4, h5, h6⟩
  · exact .inl h
  · refine .inr ⟨g', cap, cur, e, h1, h2, h3, h4, h5, ?_⟩
    rw [cells_U8 h6]; exact U8_cells _
/-- Bytes of the call's own, as bytes in new memory. -/
theorem own_new {w : World} {base : Nat} {T : TypeId} {S : BS} {v : Value} {l : List UInt8} (h : Own EU8 w base T S v l) : BytesS w (fun k => base ≤ k) v l := by
  obtain ⟨cs, h1, h2⟩ := h.rowS EU8.ok
  refine ⟨cs, h1.more fun k _ e => (h.lt e).1, ?_⟩
  rw [cells_U8 h2]
  exact U8_cells _
/-- One byte of the call's own: read, written. -/
theorem own_u8_at {w : World} {base : Nat} {T : TypeId} {S : BS} {v : Value} {l : List UInt8} (h : Own EU8 w base T S v l) {k : Nat} (hk : k < l.length) :
    ∃ g cap, v = .slice (some ⟨g, 0, none⟩) l.length cap ∧ base ≤ g ∧ g < w.heap.size ∧ l.length ≤ cap ∧ cap ≤ maxLen ∧ w.cell? ⟨g, k, none⟩ = some (U8 l[k]) ∧ w.frozen? ⟨g, k, none⟩ = false ∧
      ∀ x : UInt8, Own EU8 (w.setCell ⟨g, k, none⟩ (U8 x)) base T S v (l.set k x) := by
  rcases h with ⟨_, rfl⟩ | ⟨g, cap, cur, rfl, h1, h2, h3, h4, h5, h6⟩
  · simp at hk
  have hc := cells_U8 h6
  have e1 : EU8.size = 1 := rfl
  rw [e1, Nat.mul_one] at hc h5
  have hcur : cur[k]? = some (U8 l[k]) := by
    have : (cur.toList.take l.length)[k]? = (l.map U8)[k]? := by rw [hc]
    rw [List.getElem?_take_of_lt hk] at this
    simpa [hk] using this
  refine ⟨g, cap, rfl, h1, h2.lt, h3, h4, by rw [h2.cell]; exact hcur, h2.frozen k, fun x => .inr ⟨g, cap, _, by rw [List.length_set], h1, h2.set_ k (U8 x), by simpa using h3, h4, by simpa [e1] using h5, ?_⟩⟩
  have : (cur.setIfInBounds k (U8 x)).toList.take ((l.set k x).length * EU8.size) = (l.set k x).map U8 := by
    rw [e1, Nat.mul_one, List.length_set, Array.toList_setIfInBounds, List.take_set, hc, List.map_set]
  rw [this]
  exact U8_cells _
/-- Bytes in a new block. -/
theorem bytes_new {w : World} {t : TypeId} {f : Nat × Nat} (l : List UInt8) (h : l.length ≤ maxLen) :
    BytesS (w.alloc (.cells (l.map U8).toArray t f)) (fun k => w.heap.size ≤ k) (.slice (some ⟨w.heap.size, 0, none⟩) l.length l.length) l :=
  ⟨l.map U8, (RowS.new (w := w) (t := t) (sz := 1) (n := l.length) (cs := l.map U8) (by simp) h f).more fun k _ e => by subst e; exact Nat.le_refl _, U8_cells _⟩
/-- In a walk: 'append(own, bytes...)'. -/
theorem wpList_append_bytes {P : Program} {w : World} {S2 : BS} {base : Nat} {t T : TypeId} {v y : Value} {xs ys : List UInt8} {ops : Array Oper} {rest : List Oper} {o : Oper} {a : Act} {Q : Exit → Act → World → Prop} (hgd : o.guard = none) (s x : Operand)
    (ht : TyInfo P t T 1 1) (ho : o.op = .call { callee := .builtin .append, args := #[s, x], argTypes := #[t, t] })
    (hs : a.eval s = v) (hx : a.eval x = y) (hown : Own EU8 w base T (fun _ => False) v xs) (hsrc : BytesS w S2 y ys) (hg : ∀ g, v.ownBlock = some g → ¬ S2 g)
    (hlen : xs.length + ys.length ≤ 140737488355328) (hbase : base ≤ w.heap.size)
    (h : ∀ A' c' w', Own EU8 w' base T (fun _ => False) (.slice A' (xs.length + ys.length) c') (xs ++ ys) → xs.length + ys.length ≤ c' → c' ≤ maxLen → Keep (fun k => v.ownBlock = some k) w w' → wpList P ops Q rest (a.put o.dst (.slice A' (xs.length + ys.length) c')) w') : wpList P ops Q (o :: rest) a w := by
  refine wpList_own_append (E := EU8) w hgd s x EU8.ok ht ho hs hx hown hsrc (fun g e => ⟨id, hg g e⟩) (by omega) (by simp only [maxLen]; omega) hbase (fun v' w' h1 h2 h3 => ?_)
  obtain ⟨A', c', e, h4, h5⟩ := h1.shape
  rw [List.length_append] at e h4
  subst e
  exact h A' c' w' (own_u8 h1) h4 h5 h2
end Go.Proofs.Ytioplgfopillnaa

/- The law's 'plain': a text's first bytes, each below 128. -/
set_option linter.unusedSimpArgs false
set_option linter.unusedVariables false
namespace Go.Proofs.Ytioplgfopillnaa
open Go.RowKit
set_option linter.unusedVariables false

/-- The bytes of a text, at most 40, each modulo 128. -/
def plainL (s : ByteArray) : List UInt8 := (s.data.toList.take 40).map (· % 128)
theorem plain_asc (s : ByteArray) : Asc (textOf (plainL s)) := by
  refine ⟨fun c hc => ?_, ?_⟩
  · simp only [textOf, plainL, List.mem_map] at hc
    obtain ⟨x, _, rfl⟩ := hc
    rw [UInt8.toNat_mod]
    exact Nat.mod_lt _ (by decide)
  · have : (textOf (plainL s)).size = (plainL s).length := by simp [textOf, ByteArray.size]
    rw [this, plainL, List.length_map, List.length_take]
    omega
theorem plain_len (s : ByteArray) : (plainL s).length ≤ 40 := by simp [plainL]; omega
theorem ty_u8 : TyInfo Try.prog 23 5 1 1 := by
  obtain ⟨i, h1, h2, h3, h4⟩ := info_parts (show (Try.prog.info? 5).map (fun i => (i.zero, i.size, i.bytes)) = some (some (.int .u8 0), 1, 1) from by kernel_rfl)
  exact ⟨Try.underlying23, i, _, h1, h2, h3, h4, rfl⟩

set_option maxRecDepth 100000 in
set_option maxHeartbeats 1600000 in
theorem plain_ok (s : ByteArray) (w : World) :
    Calls Try.prog 25 #[.string s] w fun e w' => e = .returned (.string (textOf (plainL s))) ∧ Ext w w' := by
  go_enter Try.func25, Try.ntmps25
  go_wp2_with fail
  go_loopw [3, 4] (fun b i wr => ∃ j : Nat, j ≤ 40 ∧ j ≤ s.size ∧ i = .int .i64 j ∧ Own EU8 wr w.heap.size 5 (fun _ => False) b ((s.data.toList.take j).map (· % 128)) ∧ Ext w wr) (fun _ i _ => 40 - (intOf i).toNat)
  case atStart => exact ⟨0, by omega, by omega, rfl, Own.nil _ _ _ _, Keep.refl _ _⟩
  case round =>
    obtain ⟨j, hj, hjs, rfl, hown, hE⟩ := hrel
    obtain ⟨A, c, rfl, hl, hc⟩ := hown.shape
    have hlen : ((s.data.toList.take j).map (· % 128)).length = j := by
      rw [List.length_map, List.length_take]
      have : s.data.toList.length = s.size := Array.length_toList
      omega
    rw [hlen] at hown ⊢
    have HO := hid hown
    have HE := hid hE
    clear hown hE
    have hstop : ¬ (j < s.size ∧ j < 40) → (s.data.toList.take j).map (· % 128) = plainL s := by
      intro h
      unfold plainL
      rcases Nat.lt_or_ge j 40 with h1 | h1
      · have h2 : s.data.toList.length = s.size := Array.length_toList
        rw [List.take_of_length_le (by omega), List.take_of_length_le (by omega)]
      · obtain rfl : j = 40 := by omega
        rfl
    by_cases h1 : j < s.size
    · by_cases h2 : j < 40
      · have hnext : (s.data.toList.take j).map (· % 128) ++ [s[j] % 128] = (s.data.toList.take (j + 1)).map (· % 128) := by
          have h3 : s.data.toList.length = s.size := Array.length_toList
          rw [List.take_succ_eq_append_getElem (by omega), List.map_append]
          rfl
        have HX := hid hnext
        have hnew := bytes_new (w := wr) (t := 5) (f := (0, 0)) [s[j] % 128] (by simp [maxLen])
        have hu : [s[j] % 128].map U8 = [Value.int .u8 ((s[j].toNat : Int) % 128)] := by
          simp only [List.map_cons, List.map_nil, U8, UInt8.toNat_mod]
          rfl
        rw [hu] at hnew
        have HV := hid hnew
        have HO2 := hid (HO.out.ext EU8.ok ((Keep.refl (fun _ => False) wr).alloc (.cells [Value.int .u8 ((s[j].toNat : Int) % 128)].toArray 5)))
        have HLN := hid hlen
        generalize (s.data.toList.take j).map (· % 128) = tj at *
        clear hnew hu hnext hstop
        have h1X : (j : Int) < s.size := by omega
        have h2X : (j : Int) < 40 := by omega
        go_wp2_with (at_builtin; refine wpList_append_bytes rfl (.tmp 15) (.tmp 20) ty_u8 rfl rfl rfl HO2.out HV.out ?c1 ?c2 ?c3 ?_)
        case c1 => intro g hg h; have := HO.out.lt (show (Value.slice A j c).ownBlock = some g from hg); omega
        case c2 => simp; omega
        case c3 => have := HE.out.size; simp; omega
        intro A' c' w' h3 h4 h5 h6
        have HO3 := hid h3
        have HE3 := hid (HE.out.trans ((Keep.alloc (Keep.refl (fun k => (Value.slice A j c).ownBlock = some k) wr) _).trans h6 fun k _ e => e) fun k hk e => by have := (HO.out.lt (show (Value.slice A j c).ownBlock = some k from e)).1; omega)
        have hl3 : tj.length + [s[j] % 128].length = j + 1 := by have := HLN.out; simp; omega
        clear h3 h4 h6 HO HO2 HV HE hlen
        go_wp2
        go_roundw
        case rel => exact ⟨j + 1, by omega, by omega, by go_num, by rw [← HX.out]; exact HO3.out, HE3.out⟩
        case measure => simp [intOf]; omega
      · have hl := hstop (by omega)
        have HC := convert_bytesS (HO.out.sl EU8.ok)
        rw [hl] at HC
        have HE2 := hid HE.out
        clear HO HE hstop hlen hl
        go_wp2
        go_ret
        exact ⟨rfl, HE2.out⟩
    · have hl := hstop (by omega)
      have HC := convert_bytesS (HO.out.sl EU8.ok)
      rw [hl] at HC
      have HE2 := hid HE.out
      clear HO HE hstop hlen hl
      go_wp2
      go_ret
      exact ⟨rfl, HE2.out⟩
end Go.Proofs.Ytioplgfopillnaa

/- Values and fields overwritten in a row of the call's own. -/
set_option linter.unusedSimpArgs false
set_option linter.unusedVariables false
namespace Go.Proofs.Ytioplgfopillnaa
open Go.RowKit
set_option linter.unusedVariables false

abbrev set5 (w : World) (g o : Nat) (a b c d e : Value) : World := ((((w.setCell ⟨g, o, none⟩ a).setCell ⟨g, o + 1, none⟩ b).setCell ⟨g, o + 2, none⟩ c).setCell ⟨g, o + 3, none⟩ d).setCell ⟨g, o + 4, none⟩ e
theorem set5_keep (w : World) (g o : Nat) (a b c d e : Value) : Keep (· = g) w (set5 w g o a b c d e) := (((((Keep.refl (· = g) w).set1 o a).set1 (o + 1) b).set1 (o + 2) c).set1 (o + 3) d).set1 (o + 4) e
theorem set5_blk {w : World} {g : Nat} {T : TypeId} {cur : Array Value} (h : Blk w g T cur) (o : Nat) (a b c d e : Value) (ho : o + 5 ≤ cur.size) :
    ∃ cur', Blk (set5 w g o a b c d e) g T cur' ∧ cur'.toList = cur.toList.take o ++ [a, b, c, d, e] ++ cur.toList.drop (o + 5) := by
  refine ⟨_, ((((h.set_ o a).set_ (o + 1) b).set_ (o + 2) c).set_ (o + 3) d).set_ (o + 4) e, ?_⟩
  simp only [Array.toList_setIfInBounds]
  exact list_five _ _ _ _ _ _ _ (by simpa using ho)

section
variable {w : World} {S1 S0 : BS} {base : Nat} {T : TypeId} {v : Value} {j : Nat}
theorem Mix.nextV {xs : List V} (h : Mix EVal w base T S1 S0 v xs j) (hj : j < xs.length) :
    ∃ g cap a b c d e, v = .slice (some ⟨g, 0, none⟩) xs.length cap ∧ base ≤ g ∧ g < w.heap.size ∧ VAt w S0 (.agg #[a, b, c, d, e]) xs[j] ∧
      (w.cell? ⟨g, j * 5, none⟩ = some a ∧ w.cell? ⟨g, j * 5 + 1, none⟩ = some b ∧ w.cell? ⟨g, j * 5 + 2, none⟩ = some c ∧ w.cell? ⟨g, j * 5 + 3, none⟩ = some d ∧ w.cell? ⟨g, j * 5 + 4, none⟩ = some e) ∧ (∀ i, w.frozen? ⟨g, i, none⟩ = false) ∧
      ∀ (w' : World) (S2 : BS) (a b c d e : Value), Ext w w' → ¬ S1 g → ¬ S0 g → VAt w' S2 (.agg #[a, b, c, d, e]) xs[j] → (∀ k, S2 k → S1 k) → Mix EVal (set5 w' g (j * 5) a b c d e) base T S1 S0 v xs (j + 1) := by
  obtain ⟨g, cap, c0, h1, h2, h3, h4, h5, h6, h7⟩ := h.next EVal.ok hj
  obtain ⟨lv, ov, rfl, hl, ho⟩ := rdV_iff.1 h4
  refine ⟨g, cap, _, _, _, _, _, h1, h2, h3, ⟨_, _, rfl, hl, ho⟩, ⟨h5 0 _ rfl, h5 1 _ rfl, h5 2 _ rfl, h5 3 _ rfl, h5 4 _ rfl⟩, h6, fun w' S2 a b c d e hE hS1 hS0 hv hS => ?_⟩
  refine h7 w' _ [a, b, c, d, e] hE (set5_keep _ _ _ _ _ _ _ _) hS1 hS0 ?_ fun cur hb hle _ => set5_blk hb _ _ _ _ _ _ hle
  exact EVal.ok.more (EVal.ok.keep hv.rd (set5_keep _ _ _ _ _ _ _ _) (fun k hk e => hS1 (e ▸ hS k hk))) (fun k _ => hS k)
theorem Mix.nextF {xs : List F} (h : Mix EField w base T S1 S0 v xs j) (hj : j < xs.length) :
    ∃ g cap a b c d e, v = .slice (some ⟨g, 0, none⟩) xs.length cap ∧ base ≤ g ∧ g < w.heap.size ∧ VAt w S0 (.agg #[a, b, c, d, e]) xs[j].v ∧
      (w.cell? ⟨g, j * 6 + 1, none⟩ = some a ∧ w.cell? ⟨g, j * 6 + 2, none⟩ = some b ∧ w.cell? ⟨g, j * 6 + 3, none⟩ = some c ∧ w.cell? ⟨g, j * 6 + 4, none⟩ = some d ∧ w.cell? ⟨g, j * 6 + 5, none⟩ = some e) ∧ (∀ i, w.frozen? ⟨g, i, none⟩ = false) ∧
      ∀ (w' : World) (S2 : BS) (a b c d e : Value), Ext w w' → ¬ S1 g → ¬ S0 g → VAt w' S2 (.agg #[a, b, c, d, e]) xs[j].v → (∀ k, S2 k → S1 k) → Mix EField (set5 w' g (j * 6 + 1) a b c d e) base T S1 S0 v xs (j + 1) := by
  obtain ⟨g, cap, c0, h1, h2, h3, h4, h5, h6, h7⟩ := h.next EField.ok hj
  obtain ⟨c1, rfl, h41⟩ := rdF_iff.1 h4
  obtain ⟨lv, ov, rfl, hl, ho⟩ := rdV_iff.1 h41
  refine ⟨g, cap, _, _, _, _, _, h1, h2, h3, ⟨_, _, rfl, hl, ho⟩, ⟨h5 1 _ rfl, h5 2 _ rfl, h5 3 _ rfl, h5 4 _ rfl, h5 5 _ rfl⟩, h6, fun w' S2 a b c d e hE hS1 hS0 hv hS => ?_⟩
  refine h7 w' _ (.string xs[j].key :: [a, b, c, d, e]) hE (set5_keep _ _ _ _ _ _ _ _) hS1 hS0 ?_ fun cur hb hle hc0 => ?_
  · exact rdF_iff.2 ⟨_, rfl, EVal.ok.more (EVal.ok.keep hv.rd (set5_keep _ _ _ _ _ _ _ _) (fun k hk e => hS1 (e ▸ hS k hk))) (fun k _ => hS k)⟩
  · have hle' : j * 6 + 6 ≤ cur.size := hle
    obtain ⟨cur', hb', he'⟩ := set5_blk hb (j * 6 + 1) a b c d e (by omega)
    refine ⟨cur', hb', ?_⟩
    have hc0' : .string xs[j].key :: [U8 xs[j].v.kind, .int .i64 xs[j].v.n, .string xs[j].v.s, lv, ov] = (cur.toList.drop (j * 6)).take 6 := hc0
    have hg : cur.toList[j * 6]? = some (.string xs[j].key) := by
      have : ((cur.toList.drop (j * 6)).take 6)[0]? = some (.string xs[j].key) := by rw [← hc0']; rfl
      rw [List.getElem?_take_of_lt (by omega), List.getElem?_drop] at this
      simpa using this
    rw [he']
    show cur.toList.take (j * 6 + 1) ++ [a, b, c, d, e] ++ cur.toList.drop (j * 6 + 6) = cur.toList.take (j * 6) ++ (.string xs[j].key :: [a, b, c, d, e]) ++ cur.toList.drop (j * 6 + 6)
    have : cur.toList.take (j * 6 + 1) = cur.toList.take (j * 6) ++ [.string xs[j].key] := by
      rw [List.take_add_one, hg]; rfl
    rw [this]; simp
end

/-- A copy under way: the boxed value, the result's box, the two rows. -/
structure CopyL (w wr : World) (S : BS) (bx b1 B : Nat) (k0 n0 s0 lv ov : Value) (vl : List V) (vo : List F) (j i : Nat) : Prop where
  ext : Ext w wr
  size : B ≤ wr.heap.size
  box : Blk wr bx TVAL #[k0, n0, s0, lv, ov]
  res : Blk wr (bx + 1) TVAL #[.int .u8 0, .int .i64 0, .string ⟨#[]⟩, .slice none 0 0, .slice none 0 0]
  l : Mix EVal wr b1 TVAL (fun q => B ≤ q) S lv vl j
  o : Mix EField wr b1 TFIELD (fun q => B ≤ q) S ov vo i
  ne : ∀ g, lv.ownBlock = some g → ov.ownBlock ≠ some g
  hb1 : bx + 2 ≤ b1
  hbx : w.heap.size = bx
  hS : ∀ q, S q → q < w.heap.size
  gl : ∀ g, lv.ownBlock = some g → g < B
  go : ∀ g, ov.ownBlock = some g → g < B

section
variable {w wr : World} {S : BS} {bx b1 B : Nat} {k0 n0 s0 lv ov : Value} {vl : List V} {vo : List F} {j i : Nat}
theorem CopyL.step_ext {w' : World} (h : CopyL w wr S bx b1 B k0 n0 s0 lv ov vl vo j i) (he : Ext wr w') : CopyL w w' S bx b1 B k0 n0 s0 lv ov vl vo j i :=
  { h with ext := h.ext.ext he, size := Nat.le_trans h.size he.size, box := h.box.keep he id, res := h.res.keep he id, l := h.l.ext EVal.ok he, o := h.o.ext EField.ok he }
theorem CopyL.stepL {g cap : Nat} (h : CopyL w wr S bx b1 B k0 n0 s0 lv ov vl vo j i) {a b c d e : Value} (hlv : lv = .slice (some ⟨g, 0, none⟩) vl.length cap) (hm : Mix EVal (set5 wr g (j * 5) a b c d e) b1 TVAL (fun q => B ≤ q) S lv vl (j + 1)) :
    CopyL w (set5 wr g (j * 5) a b c d e) S bx b1 B k0 n0 s0 lv ov vl vo (j + 1) i := by
  have hk := set5_keep wr g (j * 5) a b c d e
  have hg : lv.ownBlock = some g := by rw [hlv]; rfl
  have h1 := h.l.lt hg
  have h2 := h.gl g hg
  have h3 := h.hb1
  have h4 := h.hbx
  exact { h with
    ext := h.ext.trans hk (fun q hq e => by omega), size := Nat.le_trans h.size hk.size, box := h.box.keep hk (by omega), res := h.res.keep hk (by omega), l := hm
    o := h.o.keep EField.ok hk (fun q hq e => by omega) (fun q hq e => by have := h.hS q hq; omega) (fun q hq e => by subst e; exact h.ne _ hg hq) }
theorem CopyL.stepO {g cap : Nat} (h : CopyL w wr S bx b1 B k0 n0 s0 lv ov vl vo j i) {a b c d e : Value} (hov : ov = .slice (some ⟨g, 0, none⟩) vo.length cap) (hm : Mix EField (set5 wr g (i * 6 + 1) a b c d e) b1 TFIELD (fun q => B ≤ q) S ov vo (i + 1)) :
    CopyL w (set5 wr g (i * 6 + 1) a b c d e) S bx b1 B k0 n0 s0 lv ov vl vo j (i + 1) := by
  have hk := set5_keep wr g (i * 6 + 1) a b c d e
  have hg : ov.ownBlock = some g := by rw [hov]; rfl
  have h1 := h.o.lt hg
  have h2 := h.go g hg
  have h3 := h.hb1
  have h4 := h.hbx
  exact { h with
    ext := h.ext.trans hk (fun q hq e => by omega), size := Nat.le_trans h.size hk.size, box := h.box.keep hk (by omega), res := h.res.keep hk (by omega), o := hm
    l := h.l.keep EVal.ok hk (fun q hq e => by omega) (fun q hq e => by have := h.hS q hq; omega) (fun q hq e => by subst e; exact h.ne _ hq hg) }
end
end Go.Proofs.Ytioplgfopillnaa

/- The law's 'one': a value of pieces; the flat ones. -/
set_option linter.unusedSimpArgs false
set_option linter.unusedVariables false
namespace Go.Proofs.Ytioplgfopillnaa
open Go.RowKit
set_option linter.unusedVariables false

/-- What 'one' hands back: a sound value; how many pieces it took. -/
def OneIs (w : World) (ts : List Tk) (e : Ending) (w' : World) : Prop := ∃ u x, ∃ n : Nat, e = .returned (.tuple #[u, .int .i64 (n : Int)]) ∧ n ≤ ts.length ∧ (ts ≠ [] → 1 ≤ n) ∧ x.size ≤ 4 * n + 1 ∧ SV x ∧ VAt w' (fun q => w.heap.size ≤ q) u x ∧ Ext w w'
abbrev TTOK : Nat := 44
theorem set5_to {w : World} {g : Nat} {T : TypeId} {cur : Array Value} (h : Blk w g T cur) (hc : cur.size = 5) (a b c d e : Value) : Blk (set5 w g 0 a b c d e) g T #[a, b, c, d, e] := by
  obtain ⟨cur', h5, h6⟩ := set5_blk h 0 a b c d e (by omega)
  have : cur' = #[a, b, c, d, e] := by
    apply Array.toList_inj.1
    rw [h6]
    have : cur.toList.drop 5 = [] := List.drop_eq_nil_of_le (by simp; omega)
    simp [this]
  rw [this] at h5
  exact h5
theorem blk5 {w : World} {b : Nat} {T : TypeId} {a0 a1 a2 a3 a4 : Value} (h : Blk w b T #[a0, a1, a2, a3, a4]) : w.cell? ⟨b, 0, none⟩ = some a0 ∧ w.cell? ⟨b, 1, none⟩ = some a1 ∧ w.cell? ⟨b, 2, none⟩ = some a2 ∧ w.cell? ⟨b, 3, none⟩ = some a3 ∧ w.cell? ⟨b, 4, none⟩ = some a4 :=
  ⟨h.cell 0, h.cell 1, h.cell 2, h.cell 3, h.cell 4⟩
theorem i64_and1 (n : Int) : bits .and .i64 n 1 = 0 ∨ bits .and .i64 n 1 = 1 := by
  have h1 : (BitVec.ofInt 64 1).toNat = 2 ^ 1 - 1 := by decide
  have key : (BitVec.ofInt 64 n &&& BitVec.ofInt 64 1).toNat = (n % ((2 ^ 64 : Nat) : Int)).toNat % 2 ^ 1 := by
    rw [BitVec.toNat_and, BitVec.toNat_ofInt, h1, Nat.and_two_pow_sub_one_eq_mod]
  have : bits .and .i64 n 1 = n % 2 := by
    show IntKind.i64.wrap ((BitVec.ofInt 64 n &&& BitVec.ofInt 64 1).toNat : Nat) = n % 2
    rw [key, IntKind.wrap_i64]
    omega
  omega
theorem flat_at (w : World) (S : BS) (k : UInt8) (n : Int) (s : ByteArray) : VAt w S (.agg #[U8 k, .int .i64 n, .string s, .slice none 0 0, .slice none 0 0]) (.mk k n s [] []) := ⟨_, _, rfl, Sl.nil _ _, Sl.nil _ _⟩
theorem flat_sv {k : UInt8} {n : Int} {s : ByteArray} (h : KindOk k n s [] []) : SV (.mk k n s [] []) := by
  rw [SV]; exact ⟨h, by rw [SVs]; trivial, by rw [SFs]; trivial, trivial⟩
theorem flat_size (k : UInt8) (n : Int) (s : ByteArray) : (V.mk k n s [] []).size = 1 := by rw [V.size]; simp [V.sizes, F.sizes]

set_option maxHeartbeats 1600000 in
theorem one_nil (A : Option Addr) (c : Nat) (d : Int) (w : World) : Calls Try.prog 12 #[.slice A 0 c, .int .i64 d] w (OneIs w []) := by
  go_enter Try.func12, Try.ntmps12
  go_wp2
  refine bodyPost_ret (v := .tuple #[.agg #[.int .u8 0, .int .i64 0, .string ⟨#[]⟩, .slice none 0 0, .slice none 0 0], .int .i64 0]) (by simp [results, Try.results12, go_sem]) rfl ?_
  exact ⟨_, .mk 0 0 ⟨#[]⟩ [] [], 0, rfl, by simp, fun h => absurd rfl h, by rw [flat_size]; omega, flat_sv (.inl ⟨rfl, rfl, rfl, rfl, rfl⟩), flat_at _ _ 0 _ _, (Keep.refl _ _).alloc _⟩

set_option maxHeartbeats 3200000 in
theorem one_flat (t : Tk) (ts : List Tk) (A : Option Addr) (c : Nat) (d : Int) (S : BS) (w : World) (hl : Sl ETok w S (.slice A (t :: ts).length c) (t :: ts)) (hn : (t :: ts).length ≤ 60) (h4 : (t.kind.toNat : Int) % 6 ≠ 4) (h5 : (t.kind.toNat : Int) % 6 ≠ 5) :
    Calls Try.prog 12 #[.slice A (t :: ts).length c, .int .i64 d] w (OneIs w (t :: ts)) := by
  obtain ⟨A', c', e, hlc, _⟩ := hl.shape
  obtain ⟨e1, e3⟩ : A = A' ∧ c = c' := by injection e with h1 _ h3; exact ⟨h1, h3⟩
  subst e1 e3
  clear e
  obtain ⟨b, off, c0, rfl, _, hlt, hrd, hcell⟩ := hl.at_ ETok.ok (k := 0) (by simp)
  obtain rfl : c0 = [U8 t.kind, .int .i64 t.n, .string t.s, U8 t.many] := hrd
  have p0 := hcell 0 _ rfl
  have p1 := hcell 1 _ rfl
  have p2 := hcell 2 _ rfl
  have p3 := hcell 3 _ rfl
  have hz : ETok.size = 4 := rfl
  simp only [hz, Nat.zero_mul, Nat.add_zero] at p0 p1 p2 p3
  have hlen : 0 < (t :: ts).length := by simp
  have hne : (t :: ts) ≠ [] := by simp
  have HNE := hid (And.intro hlen hne)
  have H4 := hid (And.intro h4 h5)
  clear hl hcell hz h4 h5 hne
  obtain ⟨tk, tn, tst, tm⟩ := t
  simp only at *
  generalize (Tk.mk tk tn tst tm :: ts) = tl at *
  obtain ⟨r, hr, hr6⟩ : ∃ r : Nat, (tk.toNat : Int) % 6 = r ∧ r < 6 := ⟨tk.toNat % 6, by omega, by omega⟩
  have hr' : r = 0 ∨ r = 1 ∨ r = 2 ∨ r = 3 := by have := H4.out; omega
  clear hr6 H4
  rcases hr' with rfl | rfl | rfl | rfl
  · go_enter Try.func12, Try.ntmps12
    go_wp2
    refine bodyPost_ret (v := .tuple #[.agg #[.int .u8 0, .int .i64 0, .string ⟨#[]⟩, .slice none 0 0, .slice none 0 0], .int .i64 1]) (by simp [results, Try.results12, go_sem]) rfl ?_
    exact ⟨_, .mk 0 0 ⟨#[]⟩ [] [], 1, rfl, HNE.out.1, fun h => Nat.le_refl _, by rw [flat_size]; omega, flat_sv (.inl ⟨rfl, rfl, rfl, rfl, rfl⟩), flat_at _ _ 0 _ _, ((Keep.refl _ _).alloc _).alloc _⟩
  · go_enter Try.func12, Try.ntmps12
    go_wp2
    refine bodyPost_ret (v := .tuple #[.agg #[.int .u8 1, .int .i64 (bits .and .i64 tn 1), .string ⟨#[]⟩, .slice none 0 0, .slice none 0 0], .int .i64 1]) (by simp [results, Try.results12, go_sem]) rfl ?_
    exact ⟨_, .mk 1 (bits .and .i64 tn 1) ⟨#[]⟩ [] [], 1, rfl, HNE.out.1, fun h => Nat.le_refl _, by rw [flat_size]; omega, flat_sv (.inr (.inl ⟨rfl, i64_and1 tn, rfl, rfl, rfl⟩)), flat_at _ _ 1 _ _, ((Keep.refl _ _).alloc _).alloc _⟩
  · go_enter Try.func12, Try.ntmps12
    go_wp2
    refine bodyPost_ret (v := .tuple #[.agg #[.int .u8 2, .int .i64 tn, .string ⟨#[]⟩, .slice none 0 0, .slice none 0 0], .int .i64 1]) (by simp [results, Try.results12, go_sem]) rfl ?_
    exact ⟨_, .mk 2 tn ⟨#[]⟩ [] [], 1, rfl, HNE.out.1, fun h => Nat.le_refl _, by rw [flat_size]; omega, flat_sv (.inr (.inr (.inl ⟨rfl, rfl, rfl, rfl⟩))), flat_at _ _ 2 _ _, ((Keep.refl _ _).alloc _).alloc _⟩
  · go_enter Try.func12, Try.ntmps12
    have hb : Blk ((w.alloc (.cells #[.int .u8 0, .int .i64 0, .string ⟨#[]⟩, .slice none 0 0, .slice none 0 0] TVAL)).alloc (.cells #[U8 tk, .int .i64 tn, .string tst, U8 tm] TTOK)) w.heap.size TVAL #[.int .u8 0, .int .i64 0, .string ⟨#[]⟩, .slice none 0 0, .slice none 0 0] := (Blk.new _ _ _).alloc _
    have hE : Ext w ((w.alloc (.cells #[.int .u8 0, .int .i64 0, .string ⟨#[]⟩, .slice none 0 0, .slice none 0 0] TVAL)).alloc (.cells #[U8 tk, .int .i64 tn, .string tst, U8 tm] TTOK)) := ((Keep.refl _ _).alloc _).alloc _
    go_wp2_with fail
    generalize ((w.alloc (.cells #[.int .u8 0, .int .i64 0, .string ⟨#[]⟩, .slice none 0 0, .slice none 0 0] TVAL)).alloc (.cells #[U8 tk, .int .i64 tn, .string tst, U8 tm] TTOK)) = w1 at *
    refine (plain_ok tst w1).mono ?_
    rintro e w2 ⟨rfl, hE2⟩
    have hb2 := hb.keep hE2 id
    have hA := plain_asc tst
    generalize textOf (plainL tst) = pl at *
    have HA := hid hA
    have hbr := set5_to hb2 rfl (.int .u8 3) (.int .i64 0) (.string pl) (.slice none 0 0) (.slice none 0 0)
    obtain ⟨t0, t1, t2, t3, t4⟩ := blk5 hbr
    have HT := hid (And.intro t0 (And.intro t1 (And.intro t2 (And.intro t3 t4))))
    have HE := hid ((hE.ext hE2).trans (set5_keep w2 w.heap.size 0 (.int .u8 3) (.int .i64 0) (.string pl) (.slice none 0 0) (.slice none 0 0)) fun q hq e => by omega)
    obtain ⟨q0, q1, q2, q3, q4⟩ := blk5 hb2
    have f0 := hb2.frozen 0
    have f1 := hb2.frozen 1
    have f2 := hb2.frozen 2
    have f3 := hb2.frozen 3
    have f4 := hb2.frozen 4
    clear t0 t1 t2 t3 t4 hb hE hE2 hb2 hbr hA
    go_wp2
    obtain ⟨t0, t1, t2, t3, t4⟩ := HT.out
    refine bodyPost_ret (v := .tuple #[  .agg #[.int .u8 3, .int .i64 0, .string pl, .slice none 0 0, .slice none 0 0], .int .i64 1]) (by simp [results, Try.results12, go_sem, t0, t1, t2, t3, t4]) rfl ?_
    exact ⟨_, .mk 3 0 pl [] [], 1, rfl, HNE.out.1, fun h => Nat.le_refl _, by rw [flat_size]; omega, flat_sv (.inr (.inr (.inr (.inl ⟨rfl, rfl, HA.out, rfl, rfl⟩)))), flat_at _ _ 3 _ _, HE.out⟩
end Go.Proofs.Ytioplgfopillnaa
