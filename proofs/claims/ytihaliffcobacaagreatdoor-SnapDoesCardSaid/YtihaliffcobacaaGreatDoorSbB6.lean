/- ValT, PathA, PathS, RefSame, EncB: laid together. -/
import Derived.Test.YtihaliffcobacaaGreatDoorSbB5
import Derived.Test.YtihaliffcobacaaGreatDoorSbB2
import Derived.Test.YtihaliffcobacaaGreatDoorSbB4
import Derived.Laws.Cover1
import Derived.RegionTactic
import Derived.ChangeAlike
set_option linter.unusedSimpArgs false
set_option linter.unusedVariables false
set_option maxHeartbeats 25600000
set_option maxRecDepth 20000
namespace Go.Proofs.YtihaliffcobacaaGreatDoor
open Go.RowKit
def RowB (w : World) (a b : Nat) (T : TypeId) (sz : Nat) (v : Value) (n : Nat) (cs : List Value) : Prop :=
 cs.length = n * sz ∧ ((v = .slice none 0 0 ∧ n = 0) ∨ ∃ g cap cur, v = .slice (some ⟨g, 0, none⟩) n cap ∧ a ≤ g ∧ g < b ∧ Blk w g T cur ∧ n ≤ cap ∧ cap ≤ maxLen ∧ cur.size = cap * sz ∧ cur.toList.take (n * sz) = cs)
section
variable {Fr : Nat → Prop} {w w' : World} {a b a' b' : Nat} {T : TypeId} {sz n : Nat} {v : Value} {cs : List Value}
theorem RowB.keep (h : RowB w a b T sz v n cs) (hk : Keep Fr w w') (hF : ∀ q, a ≤ q → q < b → ¬ Fr q) : RowB w' a b T sz v n cs := by
 obtain ⟨h0, h | ⟨g, cap, cur, e, h1, h2, h3, h4⟩⟩ := h
 ·exact ⟨h0, .inl h⟩
 ·exact ⟨h0, .inr ⟨g, cap, cur, e, h1, h2, h3.keep hk (hF g h1 h2), h4⟩⟩
theorem RowB.ne_ {T' : TypeId} {sz' n' : Nat} {v' : Value} {cs' : List Value} (h : RowB w a b T sz v n cs) (h' : RowB w a' b' T' sz' v' n' cs') (hne : T ≠ T') : ∀ g cap g' cap', v = .slice (some ⟨g, 0, none⟩) n cap → v' = .slice (some ⟨g', 0, none⟩) n' cap' → g ≠ g' := by
 intro g cap g' cap' e e'
 obtain ⟨h0, ⟨rfl, _⟩ | ⟨g1, cap1, cur, rfl, h1, h2, h3, h4⟩⟩ := h
 ·cases e
 obtain ⟨h0', ⟨rfl, _⟩ | ⟨g2, cap2, cur2, rfl, h1', h2', h3', h4'⟩⟩ := h'
 ·cases e'
 injection e with e; injection e with e; injection e with e
 injection e' with e'; injection e' with e'; injection e' with e'
 subst e e'
 exact h3.ne_ h3' hne
theorem RowB.mono (h : RowB w a b T sz v n cs) (ha : a' ≤ a) (hb : b ≤ b') : RowB w a' b' T sz v n cs := by
 obtain ⟨h0, h | ⟨g, cap, cur, e, h1, h2, h3, h4⟩⟩ := h
 ·exact ⟨h0, .inl h⟩
 ·exact ⟨h0, .inr ⟨g, cap, cur, e, by omega, by omega, h3, h4⟩⟩
theorem RowB.shape (h : RowB w a b T sz v n cs) : ∃ A c, v = .slice A n c ∧ n ≤ c ∧ c ≤ maxLen := by
 obtain ⟨h0, ⟨rfl, rfl⟩ | ⟨g, cap, cur, rfl, h1, h2, h3, h4, h5, _⟩⟩ := h
 ·exact ⟨none, 0, rfl, by simp, by simp [maxLen]⟩
 ·exact ⟨_, cap, rfl, h4, h5⟩
theorem RowB.rowS (h : RowB w a b T sz v n cs) {S : BS} (hS : ∀ q, a ≤ q → q < b → S q) : RowS w S sz v n cs := by
 obtain ⟨h0, ⟨rfl, rfl⟩ | ⟨g, cap, cur, rfl, h1, h2, h3, h4, h5, h6, h7⟩⟩ := h
 ·exact ⟨h0, none, 0, rfl, by simp, by simp [maxLen], fun h => by simp at h⟩
 ·refine ⟨h0, _, cap, rfl, h4, h5, fun _ => ⟨g, 0, rfl, hS g h1 h2, h3.lt, fun j u hu => ?_⟩⟩
  rw [Nat.zero_add, h3.cell]
  have hj := (List.getElem?_eq_some_iff.1 hu).1
  rw [← h7, List.getElem?_take_of_lt (by omega)] at hu
  simpa using hu
theorem RowB.form (h : RowB w a b T sz v n cs) (hn : 0 < n) : ∃ g cap, v = .slice (some ⟨g, 0, none⟩) n cap ∧ a ≤ g ∧ g < b ∧ g < w.heap.size ∧ (∀ i, w.frozen? ⟨g, i, none⟩ = false) ∧ ∀ j u, cs[j]? = some u → w.cell? ⟨g, j, none⟩ = some u := by
 obtain ⟨h0, ⟨rfl, rfl⟩ | ⟨g, cap, cur, rfl, h1, h2, h3, h4, h5, h6, h7⟩⟩ := h
 ·omega
 ·refine ⟨g, cap, rfl, h1, h2, h3.lt, fun i => h3.frozen i, fun j u hu => ?_⟩
  rw [h3.cell]
  have hj := (List.getElem?_eq_some_iff.1 hu).1
  rw [← h7, List.getElem?_take_of_lt (by omega)] at hu
  simpa using hu
end
mutual
def TV (w : World) : V → Nat → Nat → List Value → Prop
 | .mk k n s l o, a, b, cs => ∃ lv ov ls os a1 a2, cs = [U8 k, .int .i64 n, .string s, lv, ov] ∧ a ≤ a1 ∧ RowB w a a1 TVAL 5 lv l.length ls ∧ RowB w a a1 TFIELD 6 ov o.length os ∧ TVs w l a1 a2 ls ∧ TFs w o a2 b os
def TVs (w : World) : List V → Nat → Nat → List Value → Prop
 | [], a, b, cs => cs = [] ∧ a ≤ b
 | v :: vs, a, b, cs => ∃ c0 c1 m, cs = c0 ++ c1 ∧ TV w v a m c0 ∧ TVs w vs m b c1
def TF (w : World) : F → Nat → Nat → List Value → Prop
 | .mk k v, a, b, cs => ∃ c0, cs = .string k :: c0 ∧ TV w v a b c0
def TFs (w : World) : List F → Nat → Nat → List Value → Prop
 | [], a, b, cs => cs = [] ∧ a ≤ b
 | f :: fs, a, b, cs => ∃ c0 c1 m, cs = c0 ++ c1 ∧ TF w f a m c0 ∧ TFs w fs m b c1
end
mutual
theorem TV_le {w : World} : ∀ (v : V) (a b : Nat) (cs : List Value), TV w v a b cs → a ≤ b ∧ cs.length = 5
 | .mk k n s l o, a, b, cs, h => by
  rw [TV] at h
  obtain ⟨lv, ov, ls, os, a1, a2, rfl, h1, _, _, h3, h4⟩ := h
  have := (TVs_le l a1 a2 ls h3).1
  have := (TFs_le o a2 b os h4).1
  exact ⟨by omega, rfl⟩
theorem TVs_le {w : World} : ∀ (l : List V) (a b : Nat) (cs : List Value), TVs w l a b cs → a ≤ b ∧ cs.length = l.length * 5
 | [], a, b, cs, h => by rw [TVs] at h; obtain ⟨rfl, h⟩ := h; exact ⟨h, rfl⟩
 | v :: vs, a, b, cs, h => by
  rw [TVs] at h
  obtain ⟨c0, c1, m, rfl, h1, h2⟩ := h
  have h3 := TV_le v a m c0 h1
  have h4 := TVs_le vs m b c1 h2
  exact ⟨by omega, by rw [List.length_append, List.length_cons, h3.2, h4.2]; omega⟩
theorem TF_le {w : World} : ∀ (f : F) (a b : Nat) (cs : List Value), TF w f a b cs → a ≤ b ∧ cs.length = 6
 | .mk k v, a, b, cs, h => by
  rw [TF] at h
  obtain ⟨c0, rfl, h⟩ := h
  have := TV_le v a b c0 h
  exact ⟨this.1, by rw [List.length_cons, this.2]⟩
theorem TFs_le {w : World} : ∀ (l : List F) (a b : Nat) (cs : List Value), TFs w l a b cs → a ≤ b ∧ cs.length = l.length * 6
 | [], a, b, cs, h => by rw [TFs] at h; obtain ⟨rfl, h⟩ := h; exact ⟨h, rfl⟩
 | v :: vs, a, b, cs, h => by
  rw [TFs] at h
  obtain ⟨c0, c1, m, rfl, h1, h2⟩ := h
  have h3 := TF_le v a m c0 h1
  have h4 := TFs_le vs m b c1 h2
  exact ⟨by omega, by rw [List.length_append, List.length_cons, h3.2, h4.2]; omega⟩
end
mutual
theorem TV_keep {Fr : Nat → Prop} {w w' : World} (hk : Keep Fr w w') : ∀ (v : V) (a b : Nat) (cs : List Value), (∀ q, a ≤ q → q < b → ¬ Fr q) → TV w v a b cs → TV w' v a b cs
 | .mk k n s l o, a, b, cs, hF, h => by
  rw [TV] at h ⊢
  obtain ⟨lv, ov, ls, os, a1, a2, rfl, h1, h3, h4, h5, h6⟩ := h
  have := (TVs_le l a1 a2 ls h5).1
  have := (TFs_le o a2 b os h6).1
  exact ⟨lv, ov, ls, os, a1, a2, rfl, h1, h3.keep hk (fun q _ _ => hF q (by omega) (by omega)), h4.keep hk (fun q _ _ => hF q (by omega) (by omega)),
   TVs_keep hk l a1 a2 ls (fun q _ _ => hF q (by omega) (by omega)) h5, TFs_keep hk o a2 b os (fun q _ _ => hF q (by omega) (by omega)) h6⟩
theorem TVs_keep {Fr : Nat → Prop} {w w' : World} (hk : Keep Fr w w') : ∀ (l : List V) (a b : Nat) (cs : List Value), (∀ q, a ≤ q → q < b → ¬ Fr q) → TVs w l a b cs → TVs w' l a b cs
 | [], a, b, cs, hF, h => by rw [TVs] at h ⊢; exact h
 | v :: vs, a, b, cs, hF, h => by
  rw [TVs] at h ⊢
  obtain ⟨c0, c1, m, rfl, h1, h2⟩ := h
  have := (TV_le v a m c0 h1).1
  have := (TVs_le vs m b c1 h2).1
  exact ⟨c0, c1, m, rfl, TV_keep hk v a m c0 (fun q _ _ => hF q (by omega) (by omega)) h1, TVs_keep hk vs m b c1 (fun q _ _ => hF q (by omega) (by omega)) h2⟩
theorem TF_keep {Fr : Nat → Prop} {w w' : World} (hk : Keep Fr w w') : ∀ (f : F) (a b : Nat) (cs : List Value), (∀ q, a ≤ q → q < b → ¬ Fr q) → TF w f a b cs → TF w' f a b cs
 | .mk k v, a, b, cs, hF, h => by
  rw [TF] at h ⊢
  obtain ⟨c0, rfl, h⟩ := h
  exact ⟨c0, rfl, TV_keep hk v a b c0 hF h⟩
theorem TFs_keep {Fr : Nat → Prop} {w w' : World} (hk : Keep Fr w w') : ∀ (l : List F) (a b : Nat) (cs : List Value), (∀ q, a ≤ q → q < b → ¬ Fr q) → TFs w l a b cs → TFs w' l a b cs
 | [], a, b, cs, hF, h => by rw [TFs] at h ⊢; exact h
 | v :: vs, a, b, cs, hF, h => by
  rw [TFs] at h ⊢
  obtain ⟨c0, c1, m, rfl, h1, h2⟩ := h
  have := (TF_le v a m c0 h1).1
  have := (TFs_le vs m b c1 h2).1
  exact ⟨c0, c1, m, rfl, TF_keep hk v a m c0 (fun q _ _ => hF q (by omega) (by omega)) h1, TFs_keep hk vs m b c1 (fun q _ _ => hF q (by omega) (by omega)) h2⟩
end
inductive Loc where
 | l (i : Nat)
 | o (k : Nat)
def V.put : V → Loc → V → V
 | .mk k n s l o, .l i, x => .mk k n s (l.set i x) o
 | .mk k n s l o, .o j, x => .mk k n s l (match o[j]? with | some f => o.set j (.mk f.key x) | none => o)
def At5 (w : World) (b off : Nat) (cs : List Value) : Prop := ∀ j u, cs[j]? = some u → w.cell? ⟨b, off + j, none⟩ = some u
def PtrT (w : World) (b off : Nat) (x : V) (a c : Nat) : Prop := ∃ cs, At5 w b off cs ∧ TV w x a c cs ∧ ¬ (a ≤ b ∧ b < c) ∧ ∀ i, w.frozen? ⟨b, i, none⟩ = false
def Hole (w : World) (S : BS) (rb roff b off : Nat) (f : V → V) (a c : Nat) : Prop :=
 ∀ (w' : World) (Fr : Nat → Prop) (cs : List Value) (x : V), Keep Fr w w' → (∀ k, k < w.heap.size → Fr k → (a ≤ k ∧ k < c) ∨ k = b) → (∀ i, (i < off ∨ off + 5 ≤ i) → w'.cell? ⟨b, i, none⟩ = w.cell? ⟨b, i, none⟩) → At5 w' b off cs → rdV w' S x cs →
  ∃ rcs, At5 w' rb roff rcs ∧ rdV w' S (f x) rcs
theorem PtrT.ext {w w' : World} {b off : Nat} {x : V} {a c : Nat} (h : PtrT w b off x a c) (he : Ext w w') : PtrT w' b off x a c := by
 obtain ⟨cs, h1, h2, h3, h4⟩ := h
 refine ⟨cs, fun j u hu => (he.cell (lt_of_cell (h1 j u hu)) id).trans (h1 j u hu), TV_keep he _ _ _ _ (fun _ _ _ x => x) h2, h3, fun i => ?_⟩
 have h5 := TV_le _ _ _ _ h2
 obtain ⟨u, hu⟩ : ∃ u, cs[0]? = some u := ⟨cs[0]'(by omega), by simp⟩
 have hb : b < w.heap.size := lt_of_cell (h1 0 u hu)
 exact (he.frozen (p := ⟨b, i, none⟩) hb id).trans (h4 i)
theorem Hole.ext {w w' : World} {S : BS} {rb roff b off : Nat} {f : V → V} {a c : Nat} (h : Hole w S rb roff b off f a c) (he : Ext w w') (hc : c ≤ w.heap.size) (hb : b < w.heap.size) : Hole w' S rb roff b off f a c := by
 intro w2 Fr cs x hk hF hi h1 h2
 have hkk : Keep (fun k => k < w.heap.size ∧ Fr k) w w2 := (Keep.mono (G := fun k => k < w.heap.size ∧ Fr k) he (fun _ _ x => x.elim)).trans hk (fun k hk' hf => ⟨hk', hf⟩)
 exact h w2 (fun k => k < w.heap.size ∧ Fr k) cs x hkk (fun k hk' hf => hF k (Nat.lt_of_lt_of_le hk' he.size) hf.2) (fun i hi' => (hi i hi').trans (he.cell hb id)) h1 h2
def fieldL (o : List F) (key : ByteArray) : Nat := (o.takeWhile fun f => keyLt f.key key).length
def fieldIs (o : List F) (key : ByteArray) : Bool := match o[fieldL o key]? with | some f => f.key.toList == key.toList | none => false
theorem fieldL_le (o : List F) (key : ByteArray) : fieldL o key ≤ o.length := by
 unfold fieldL
 exact (List.takeWhile_prefix _).length_le
theorem fieldL_at {o : List F} {key : ByteArray} {j : Nat} (hj : j ≤ o.length) (h : ∀ i (hi : i < o.length), i < j → keyLt o[i].key key = true) (h2 : ∀ hj' : j < o.length, keyLt o[j].key key = false) : fieldL o key = j := by
 unfold fieldL
 induction o generalizing j with
 | nil => simp at hj; simp [hj]
 | cons f fs ih =>
  cases j with
  | zero =>
   have := h2 (by simp)
   simp only [List.getElem_cons_zero] at this
   simp [List.takeWhile_cons, this]
  | succ j =>
   have h0 := h 0 (by simp) (by omega)
   simp only [List.getElem_cons_zero] at h0
   rw [List.takeWhile_cons, h0]
   simp only [↓reduceIte, List.length_cons]
   rw [ih (by simpa using hj) (fun i hi hij => by have := h (i + 1) (by simpa using hi) (by omega); simpa using this) (fun hj' => by have := h2 (by simpa using hj'); simpa using this)]
theorem fieldIs_some {o : List F} {key : ByteArray} {j : Nat} (hj : j < o.length) (h : fieldL o key = j) : fieldIs o key = (o[j].key.toList == key.toList) := by
 unfold fieldIs
 rw [h]
 simp [hj]
theorem fieldIs_none {o : List F} {key : ByteArray} (h : fieldL o key = o.length) : fieldIs o key = false := by
 unfold fieldIs
 rw [h]
 simp
theorem EField_cells {w : World} {S : BS} {cs : List Value} {f : F} (h : EField.rd w S cs f) : ∃ lv ov, cs = [.string f.key, U8 f.v.kind, .int .i64 f.v.n, .string f.v.s, lv, ov] ∧ (∃ A c, lv = .slice A f.v.l.length c) ∧ (∃ A c, ov = .slice A f.v.o.length c) ∧ VAt w S (.agg #[U8 f.v.kind, .int .i64 f.v.n, .string f.v.s, lv, ov]) f.v := by
 obtain ⟨c0, rfl, h0⟩ := rdF_iff.1 h
 obtain ⟨lv, ov, rfl, h1, h2⟩ := rdV_iff.1 h0
 obtain ⟨A, c, rfl, _⟩ := h1.shape
 obtain ⟨A', c', rfl, _⟩ := h2.shape
 exact ⟨_, _, rfl, ⟨_, _, rfl⟩, ⟨_, _, rfl⟩, ⟨_, _, rfl, h1, h2⟩⟩
structure St where
 list : Bool
 i : Int
 key : ByteArray
def ESt : El St := { size := 3, rd := fun _ _ cs s => cs = [.bool s.list, .int .i64 s.i, .string s.key] }
theorem ESt.ok : ESt.Ok where
 pos := by decide
 len := fun h => by subst h; rfl
 one := fun h u hu => by
  subst h
  simp at hu
  rcases hu with rfl | rfl | rfl <;> rfl
 keep := fun h _ _ => h
 more := fun h _ => h
theorem fieldIs_lt {o : List F} {key : ByteArray} (h : fieldIs o key = true) : fieldL o key < o.length := by
 unfold fieldIs at h
 rcases Nat.lt_or_ge (fieldL o key) o.length with h1 | h1
 ·exact h1
 ·rw [List.getElem?_eq_none h1] at h; cases h
theorem blk_pair (w : World) (T : TypeId) (a b : Array Value) : Blk ((w.alloc (.cells a T)).alloc (.cells b T)) w.heap.size T a ∧ Blk ((w.alloc (.cells a T)).alloc (.cells b T)) (w.heap.size + 1) T b ∧ Ext w ((w.alloc (.cells a T)).alloc (.cells b T)) := by
 have := Blk.new (w.alloc (.cells a T)) T b
 rw [World.size_alloc] at this
 exact ⟨(Blk.new _ _ _).alloc _, this, ((Keep.refl _ _).alloc _).alloc _⟩
theorem encV_pos (v : V) : 0 < (encV v).length := by rw [encV_eq]; simp
theorem encVs_len : ∀ l : List V, l.length ≤ (encVs l).length
 | [] => by simp
 | v :: l => by rw [encVs, List.length_append, List.length_cons]; have := encV_pos v; have := encVs_len l; omega
theorem encFs_len : ∀ l : List F, l.length ≤ (encFs l).length
 | [] => by simp
 | f :: l => by rw [encFs, List.length_append, List.length_cons, encF_eq, List.length_append]; have := encV_pos f.v; have := encFs_len l; omega
def tailV (k : UInt8) (n : Int) (s : ByteArray) (l : List V) (o : List F) : List UInt8 :=
 if k = 1 ∨ k = 2 then beN (u64 n) 8 else if k = 3 then encT s else if k = 4 then beN l.length 4 ++ encVs l else if k = 5 then beN o.length 4 ++ encFs o else []
theorem encV_tail (v : V) : encV v = v.kind :: tailV v.kind v.n v.s v.l v.o := encV_eq v
set_option maxRecDepth 100000 in
theorem rvalue_any : ∀ (m : Nat) (x : V), x.size ≤ m → ∀ (W1 w : World) (b : Nat) (ob : Option Nat) (bs : List UInt8) (S : BS) (u : Value), WrAt TWR W1 w b ob bs → VAt w S u x → (∀ k, S k → k < W1.heap.size ∧ k ≠ b) → bs.length + (encV x).length ≤ 4000000000 →
  Calls Tryz.prog 91 #[.pointer (some ⟨b, 0, none⟩), u] w (WrIs TWR W1 w b ob (bs ++ encV x)) := by
 intro m
 induction m with
 | zero => intro x h; have := x.size_pos; omega
 | succ m ih =>
 intro x hsz W1 w b ob bs S u hwr hu hS hlen
 have hlen2 := V.size_eq x
 have HIH := hid ih
 have HLM := hid (fun (z : V) (hz : z ∈ x.l) => (by have := V.sizes_mem hz; omega : z.size ≤ m))
 have HOM := hid (fun (z : F) (hz : z ∈ x.o) => (by have := F.sizes_mem hz; omega : z.v.size ≤ m))
 have HS := hid hS
 rw [encV_tail] at hlen ⊢
 obtain ⟨l1, o1, rfl, h1, h2⟩ := hu
 obtain ⟨A1, c1, rfl, hc1, hm1⟩ := h1.shape
 obtain ⟨A2, c2, rfl, hc2, hm2⟩ := h2.shape
 unfold maxLen at hm1 hm2
 generalize x.kind = k at *
 generalize x.n = n at *
 generalize x.s = s at *
 generalize x.l = xs at *
 generalize x.o = xo at *
 have hb0 := Blk.new w TVAL #[U8 k, .int .i64 n, .string s, .slice A1 xs.length c1, .slice A2 xo.length c2]
 have hE : Ext w (w.alloc (.cells #[U8 k, .int .i64 n, .string s, .slice A1 xs.length c1, .slice A2 xo.length c2] TVAL)) := (Keep.refl _ _).alloc _
 have HNO := hid (show ¬ (w.heap.size = b ∨ ob = some w.heap.size) from fun h => by
  have := hwr.low
  rcases h with h | h
  ·omega
  ·have := (hwr.lt h).2; omega)
 have HSN := hid (show ∀ q, S q → ¬ (q = b ∨ ob = some q) from fun q hq h => by
  have := hS q hq
  rcases h with h | h
  ·exact this.2 h
  ·have := (hwr.lt h).1; omega)
 have HWR := hid (hwr.ext hE)
 have HB0 := hid hb0
 have HE := hid hE
 have H1 := hid (h1.ext EVal.ok hE)
 have H2 := hid (h2.ext EField.ok hE)
 have hlen : bs.length + (tailV k n s xs xo).length + 1 ≤ 4000000000 := by rw [List.length_cons] at hlen; omega
 have HL := hid hlen
 have HDN := hid (show bs ++ k :: tailV k n s xs xo = (bs ++ beN k.toNat 1) ++ tailV k n s xs xo from by
  have e : beN k.toNat 1 = [k] := by rw [beN, beN]; simp
  rw [e, List.append_assoc]; rfl)
 have HL2 := hid (show (bs ++ beN k.toNat 1).length + (tailV k n s xs xo).length ≤ 4000000000 from by rw [List.length_append, beN_len]; omega)
 have hkz : (k.toNat : Int) < 256 := by have := k.toNat_lt; omega
 have hun : IntKind.u64.wrap n = (u64 n : Int) := by simp only [IntKind.wrap, IntKind.bits, IntKind.signed, Bool.false_and, Bool.false_eq_true, if_false]; unfold u64; omega
 clear ih hlen2 hsz hS hlen hwr h1 h2 hb0 hE
 go_enter Tryz.func91, Tryz.ntmps91
 go_wp2_with fail
 generalize (w.alloc (.cells #[U8 k, .int .i64 n, .string s, .slice A1 xs.length c1, .slice A2 xo.length c2] TVAL)) = W0 at *
 refine (rnum_ok W1 b k.toNat 1 (by have := k.toNat_lt; omega) (by omega) W0 ob bs HWR.out (by have := HL.out; omega)).mono ?_
 rintro e w1 ⟨rfl, o1, hw, hto⟩
 have hx := HB0.out.keep hto.1 HNO.out
 have x0 := hx.cell 0
 have x1 := hx.cell 1
 have x2 := hx.cell 2
 have x3 := hx.cell 3
 have x4 := hx.cell 4
 simp only [List.getElem?_toArray, List.getElem?_cons_succ, List.getElem?_cons_zero] at x0 x1 x2 x3 x4
 have HTO := hid hto
 have HW := hid hw
 have HB1 := hid hx
 generalize bs ++ beN k.toNat 1 = bz at *
 clear hw hto hx HWR HL
 have hfin : ∀ (w2 : World) (o2 : Option Nat) (t : List UInt8), t = tailV k n s xs xo → WrAt TWR W1 w2 b o2 (bz ++ t) → WTo b ob W0 o2 w2 → WrIs TWR W1 w b ob (bs ++ k :: tailV k n s xs xo) (.returned (.tuple #[])) w2 :=
  fun w2 o2 t ht h1 h2 => ⟨rfl, o2, by rw [HDN.out]; exact ht ▸ h1, (WTo.ext HE.out).trans h2⟩
 have HFIN := hid hfin
 clear hfin HDN
 by_cases hk1 : k = 1
 ·subst hk1
  have HT := hid (show beN (u64 n) 8 = tailV 1 n s xs xo from by unfold tailV; rw [if_pos (by decide)])
  rw [← HT.out, beN_len] at HL2
  go_wp2_with fail
  refine (rnum_ok W1 b (u64 n) 8 (u64_lt n) (by omega) w1 o1 bz HW.out (by have := HL2.out; omega)).mono ?_
  rintro e w2 ⟨rfl, o2, hw2, hto2⟩
  have HR := hid (HFIN.out w2 o2 _ HT.out hw2 (HTO.out.trans hto2))
  clear hw2 hto2
  go_wp2
  go_end0
  exact HR.out
 by_cases hk2 : k = 2
 ·subst hk2
  have HT := hid (show beN (u64 n) 8 = tailV 2 n s xs xo from by unfold tailV; rw [if_pos (by decide)])
  rw [← HT.out, beN_len] at HL2
  go_wp2_with fail
  refine (rnum_ok W1 b (u64 n) 8 (u64_lt n) (by omega) w1 o1 bz HW.out (by have := HL2.out; omega)).mono ?_
  rintro e w2 ⟨rfl, o2, hw2, hto2⟩
  have HR := hid (HFIN.out w2 o2 _ HT.out hw2 (HTO.out.trans hto2))
  clear hw2 hto2
  go_wp2
  go_end0
  exact HR.out
 by_cases hk3 : k = 3
 ·subst hk3
  have HT := hid (show encT s = tailV 3 n s xs xo from by unfold tailV; rw [if_neg (by decide), if_pos rfl])
  rw [← HT.out, encT_len] at HL2
  go_wp2_with fail
  refine (rtext_ok W1 b s (by have := HL2.out; omega) w1 o1 bz HW.out (by have := HL2.out; omega)).mono ?_
  rintro e w2 ⟨rfl, o2, hw2, hto2⟩
  have HR := hid (HFIN.out w2 o2 _ HT.out hw2 (HTO.out.trans hto2))
  clear hw2 hto2
  go_wp2
  go_end0
  exact HR.out
 by_cases hk4 : k = 4
 ·subst hk4
  have HT := hid (show beN xs.length 4 ++ encVs xs = tailV 4 n s xs xo from by unfold tailV; rw [if_neg (by decide), if_neg (by decide), if_pos rfl])
  rw [← HT.out, List.length_append, beN_len] at HL2
  have HXL := hid (show xs.length < 4294967296 from by have := encVs_len xs; have := HL2.out; omega)
  clear x1 x2 x4
  go_wp2_with fail
  refine (rnum_ok W1 b xs.length 4 (by have := HXL.out; omega) (by omega) w1 o1 bz HW.out (by have := HL2.out; omega)).mono ?_
  rintro e w2 ⟨rfl, o2, hw2, hto2⟩
  have HT2 := hid (HTO.out.trans hto2)
  have HW2 := hid hw2
  clear hw2 hto2 x0 x3 HTO HW hkz
  go_wp2_with fail
  go_loopw [4] (fun i wr => ∃ (j : Nat) (o3 : Option Nat), j ≤ xs.length ∧ i = .int .i64 j ∧ WrAt TWR W1 wr b o3 ((bz ++ beN xs.length 4) ++ encVs (xs.take j)) ∧ WTo b ob W0 o3 wr) (fun i _ => xs.length - (intOf i).toNat)
  case atStart => exact ⟨0, o2, by omega, rfl, by rw [List.take_zero, encVs, List.append_nil]; exact HW2.out, HT2.out⟩
  case round =>
   obtain ⟨j, o3, hj, rfl, hwr, hto3⟩ := hrel
   have hx := HB0.out.keep hto3.1 HNO.out
   have x3 := hx.cell 3
   simp only [List.getElem?_toArray, List.getElem?_cons_succ, List.getElem?_cons_zero] at x3
   have HWr := hid hwr
   have HTr := hid hto3
   have HLr := hid (H1.out.keep EVal.ok hto3.1 HSN.out)
   clear hwr hto3 hx
   by_cases hlt : j < xs.length
   ·obtain ⟨b1, f1, d1, rfl, hb1, hs1, hr1, hc1'⟩ := HLr.out.at_ EVal.ok hlt
    obtain ⟨B1, n1, z1, B2, n2, z2, rfl, _, _, hva⟩ := EVal_cells hr1
    have p0 := hc1' 0 _ rfl
    have p1 := hc1' 1 _ rfl
    have p2 := hc1' 2 _ rfl
    have p3 := hc1' 3 _ rfl
    have p4 := hc1' 4 _ rfl
    have e5' : EVal.size = 5 := rfl
    simp only [e5', Nat.add_zero] at p0 p1 p2 p3 p4
    have HVA := hid hva
    have HXM := hid (HLM.out xs[j] (List.getElem_mem hlt))
    have HNX := hid (encVs_take hlt)
    have HLE := hid (encVs_le (l := xs) (j + 1))
    rw [HNX.out] at HLE
    have hjX : (j : Int) < xs.length := by omega
    clear hc1' hr1 hva e5' hs1 hb1
    generalize xs[j] = y at *
    go_wp2_with fail
    refine (HIH.out y HXM.out W1 wr b o3 _ S _ HWr.out HVA.out HS.out (by have := HL2.out; have := HLE.out; simp only [List.length_append, beN_len] at this ⊢; omega)).mono ?_
    rintro e w4 ⟨rfl, o4, hw4, hto4⟩
    have HW4 := hid hw4
    have HT4 := hid (HTr.out.trans hto4)
    clear hw4 hto4 x3 p0 p1 p2 p3 p4 HVA HWr HTr HLr
    go_wp2_with fail
    exact ⟨⟨j + 1, o4, by omega, by go_num, by rw [HNX.out, ← List.append_assoc]; exact HW4.out, HT4.out⟩, by simp [intOf]; omega⟩
   ·obtain rfl : j = xs.length := by omega
    have HR := hid (HFIN.out wr o3 (beN xs.length 4 ++ encVs xs) HT.out (by have := HWr.out; rw [List.take_length, List.append_assoc] at this; exact this) HTr.out)
    clear HLr HWr HTr
    go_wp2
    go_end0
    exact HR.out
 by_cases hk5 : k = 5
 ·subst hk5
  have HT := hid (show beN xo.length 4 ++ encFs xo = tailV 5 n s xs xo from by unfold tailV; rw [if_neg (by decide), if_neg (by decide), if_neg (by decide), if_pos rfl])
  rw [← HT.out, List.length_append, beN_len] at HL2
  have HXL := hid (show xo.length < 4294967296 from by have := encFs_len xo; have := HL2.out; omega)
  clear x1 x2 x3
  go_wp2_with fail
  refine (rnum_ok W1 b xo.length 4 (by have := HXL.out; omega) (by omega) w1 o1 bz HW.out (by have := HL2.out; omega)).mono ?_
  rintro e w2 ⟨rfl, o2, hw2, hto2⟩
  have HT2 := hid (HTO.out.trans hto2)
  have HW2 := hid hw2
  clear hw2 hto2 x0 x4 HTO HW hkz
  go_wp2_with fail
  go_loopw [5] (fun i wr => ∃ (j : Nat) (o3 : Option Nat), j ≤ xo.length ∧ i = .int .i64 j ∧ WrAt TWR W1 wr b o3 ((bz ++ beN xo.length 4) ++ encFs (xo.take j)) ∧ WTo b ob W0 o3 wr) (fun i _ => xo.length - (intOf i).toNat)
  case atStart => exact ⟨0, o2, by omega, rfl, by rw [List.take_zero, encFs, List.append_nil]; exact HW2.out, HT2.out⟩
  case round =>
   obtain ⟨j, o3, hj, rfl, hwr, hto3⟩ := hrel
   have hx := HB0.out.keep hto3.1 HNO.out
   have x4 := hx.cell 4
   simp only [List.getElem?_toArray, List.getElem?_cons_succ, List.getElem?_cons_zero] at x4
   have HWr := hid hwr
   have HTr := hid hto3
   have HLr := hid (H2.out.keep EField.ok hto3.1 HSN.out)
   clear hwr hto3 hx
   by_cases hlt : j < xo.length
   ·obtain ⟨b1, f1, d1, rfl, hb1, hs1, hr1, hc1'⟩ := HLr.out.at_ EField.ok hlt
    obtain ⟨lv1, ov1, rfl, ⟨D1, g1, rfl⟩, ⟨D2, g2, rfl⟩, hva⟩ := EField_cells hr1
    have p0 := hc1' 0 _ rfl
    have e5' : EField.size = 6 := rfl
    simp only [e5', Nat.add_zero] at p0
    have HXM := hid (HOM.out xo[j] (List.getElem_mem hlt))
    have HNX := hid (encFs_take hlt)
    have HLE := hid (encFs_le (l := xo) (j + 1))
    rw [HNX.out, encF_eq] at HLE
    have HBB := hid (show bz.length + (4 + ((encFs (xo.take j)).length + ((4 + xo[j].key.size) + (encV xo[j].v).length))) ≤ 4000000000 from by
     have := HL2.out; have := HLE.out; simp only [List.length_append, encT_len] at this ⊢; omega)
    have HKEY := hid (show xo[j].key.size < 4294967296 from by have := HBB.out; omega)
    have hjX : (j : Int) < xo.length := by omega
    have hjl : j < xo.length := hlt
    clear hc1' hr1 hva e5' hs1 hb1
    generalize hy : xo[j] = y at *
    go_wp2_with fail
    refine (rtext_ok W1 b y.key HKEY.out wr o3 _ HWr.out (by have := HBB.out; simp only [List.length_append, beN_len]; omega)).mono ?_
    rintro e w3 ⟨rfl, o4, hw4, hto4⟩
    have HT4 := hid (HTr.out.trans hto4)
    have hx := HB0.out.keep HT4.out.1 HNO.out
    have x4' := hx.cell 4
    simp only [List.getElem?_toArray, List.getElem?_cons_succ, List.getElem?_cons_zero] at x4'
    obtain ⟨b1', f1', d1', e1', hb1, hs1, hr1, hc1'⟩ := (H2.out.keep EField.ok HT4.out.1 HSN.out).at_ EField.ok hjl
    injection e1' with e1'
    injection e1' with e1' e2' _
    subst e1' e2'
    rw [hy] at hr1
    obtain ⟨lv1', ov1', rfl, ⟨D1', g1', rfl⟩, ⟨D2', g2', rfl⟩, hva⟩ := EField_cells hr1
    have p1 := hc1' 1 _ rfl
    have p2 := hc1' 2 _ rfl
    have p3 := hc1' 3 _ rfl
    have p4 := hc1' 4 _ rfl
    have p5 := hc1' 5 _ rfl
    have e5' : EField.size = 6 := rfl
    simp only [e5', Nat.add_zero] at p1 p2 p3 p4 p5
    have HVA := hid hva
    have HW4 := hid hw4
    clear hx hc1' hr1 hva e5' hs1 hb1 hw4 hto4 x4 p0 HWr HTr HLr
    go_wp2_with fail
    refine (HIH.out y.v HXM.out W1 w3 b o4 _ S _ HW4.out HVA.out HS.out (by have := HBB.out; simp only [List.length_append, beN_len, encT_len]; omega)).mono ?_
    rintro e w5 ⟨rfl, o5, hw5, hto5⟩
    have HW5 := hid hw5
    have HT5 := hid (HT4.out.trans hto5)
    clear hw5 hto5 x4' p1 p2 p3 p4 p5 HVA HW4 HT4
    go_wp2_with fail
    exact ⟨⟨j + 1, o5, by omega, by go_num, by rw [HNX.out, encF_eq, ← List.append_assoc, ← List.append_assoc]; exact HW5.out, HT5.out⟩, by simp [intOf]; omega⟩
   ·obtain rfl : j = xo.length := by omega
    have HR := hid (HFIN.out wr o3 (beN xo.length 4 ++ encFs xo) HT.out (by have := HWr.out; rw [List.take_length, List.append_assoc] at this; exact this) HTr.out)
    clear HLr HWr HTr
    go_wp2
    go_end0
    exact HR.out
 have HR := hid (HFIN.out w1 o1 [] (by unfold tailV; rw [if_neg (by rintro (h | h) <;> contradiction), if_neg hk3, if_neg hk4, if_neg hk5]) (by rw [List.append_nil]; exact HW.out) HTO.out)
 have kx1 : ((k.toNat : Int) == 1) = false := by rw [beq_eq_false_iff_ne]; intro h; exact hk1 (UInt8.toNat_inj.1 (show k.toNat = 1 by omega))
 have kx2 : ((k.toNat : Int) == 2) = false := by rw [beq_eq_false_iff_ne]; intro h; exact hk2 (UInt8.toNat_inj.1 (show k.toNat = 2 by omega))
 have kx3 : ((k.toNat : Int) == 3) = false := by rw [beq_eq_false_iff_ne]; intro h; exact hk3 (UInt8.toNat_inj.1 (show k.toNat = 3 by omega))
 have kx4 : ((k.toNat : Int) == 4) = false := by rw [beq_eq_false_iff_ne]; intro h; exact hk4 (UInt8.toNat_inj.1 (show k.toNat = 4 by omega))
 have kx5 : ((k.toNat : Int) == 5) = false := by rw [beq_eq_false_iff_ne]; intro h; exact hk5 (UInt8.toNat_inj.1 (show k.toNat = 5 by omega))
 go_wp2
 go_end0
 exact HR.out
end Go.Proofs.YtihaliffcobacaaGreatDoor
