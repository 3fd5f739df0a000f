/- LawNum: laid together. -/
import Derived.Test.YtihaliffcobacaaGreatDoorSbB9
set_option linter.unusedSimpArgs false
set_option linter.unusedVariables false
set_option maxHeartbeats 25600000
set_option maxRecDepth 20000
namespace Go.Proofs.YtihaliffcobacaaGreatDoor
open Go.RowKit
mutual
def NAll (P : Int → Prop) : V → Prop
 | .mk _ n _ l o => P n ∧ NAlls P l ∧ NFAlls P o
def NAlls (P : Int → Prop) : List V → Prop
 | [] => True
 | v :: vs => NAll P v ∧ NAlls P vs
def NFAlls (P : Int → Prop) : List F → Prop
 | [] => True
 | .mk _ v :: fs => NAll P v ∧ NFAlls P fs
end
theorem NAlls_iff (P : Int → Prop) : ∀ l : List V, NAlls P l ↔ ∀ v ∈ l, NAll P v
 | [] => by simp [NAlls]
 | v :: vs => by rw [NAlls, NAlls_iff P vs]; simp
theorem NFAlls_iff (P : Int → Prop) : ∀ l : List F, NFAlls P l ↔ ∀ f ∈ l, NAll P f.v
 | [] => by simp [NFAlls]
 | .mk k v :: vs => by rw [NFAlls, NFAlls_iff P vs]; simp [F.v]
def NumT (ts : List Tk) (x : V) : Prop := ∀ P : Int → Prop, (∀ t ∈ ts, P t.n) → P 0 → P 1 → NAll P x
def kindT : List Tk → UInt8
 | [] => 0
 | t :: _ => t.kind % 6
theorem NumT.sub {ts ts' : List Tk} {x : V} (h : NumT ts x) (hs : ∀ t ∈ ts, t ∈ ts') : NumT ts' x := fun P h1 h2 h3 => h P (fun t ht => h1 t (hs t ht)) h2 h3
theorem num_flat {ts : List Tk} {k : UInt8} {n : Int} {s : ByteArray} (h : ∀ P : Int → Prop, (∀ t ∈ ts, P t.n) → P 0 → P 1 → P n) : NumT ts (.mk k n s [] []) := fun P h1 h2 h3 => by
 rw [NAll, NAlls, NFAlls]; exact ⟨h P h1 h2 h3, trivial, trivial⟩
theorem kind_of {tk k : UInt8} {tl : List Tk} (h : kindT tl = tk % 6) {r : Nat} (hr : (tk.toNat : Int) % 6 = (r : Int)) (hk : k.toNat = r) : k = kindT tl := by
 rw [h]
 apply UInt8.toNat_inj.1
 rw [UInt8.toNat_mod, hk]
 show r = tk.toNat % 6
 omega
def SVn (ts : List Tk) (d : Int) (x : V) : Prop := SVd d x ∧ NumT ts x
def SVsn (ts : List Tk) (d : Int) (xs : List V) : Prop := SVsd d xs ∧ ∀ y ∈ xs, NumT ts y
def SFsn (ts : List Tk) (d : Int) (xs : List F) : Prop := SFsd d xs ∧ ∀ f ∈ xs, NumT ts f.v
theorem svn_list {ts : List Tk} {d : Int} (hd : d ≤ 6) {xs : List V} (h : SVsn ts d xs) : SVn ts d (.mk 4 0 ⟨#[]⟩ xs []) :=
 ⟨svd_list hd h.1, fun P h1 h2 h3 => by rw [NAll, NAlls_iff, NFAlls]; exact ⟨h2, fun v hv => h.2 v hv P h1 h2 h3, trivial⟩⟩
theorem svn_obj {ts : List Tk} {d : Int} (hd : d ≤ 6) {xs : List F} (h : SFsn ts d xs) (hr : Rise xs) : SVn ts d (.mk 5 0 ⟨#[]⟩ [] xs) :=
 ⟨svd_obj hd h.1 hr, fun P h1 h2 h3 => by rw [NAll, NAlls, NFAlls_iff]; exact ⟨h2, trivial, fun v hv => h.2 v hv P h1 h2 h3⟩⟩
theorem svsn_snoc {ts : List Tk} {k : Nat} {d : Int} {xs : List V} {x : V} (h : SVsn ts d xs) (hx : SVn (ts.drop k) (d + 1) x) : SVsn ts d (xs ++ [x]) :=
 ⟨svsd_snoc h.1 hx.1, fun y hy => by
  rcases List.mem_append.1 hy with hy | hy
  ·exact h.2 y hy
  ·rw [List.mem_singleton.1 hy]; exact hx.2.sub fun t ht => List.mem_of_mem_drop ht⟩
theorem sfsn_with {ts : List Tk} {k : Nat} {d : Int} {xs : List F} {key : ByteArray} {x : V} (h : SFsn ts d xs) (hk : Asc40 key) (hx : SVn (ts.drop k) (d + 1) x) : SFsn ts d (withL xs key x) :=
 ⟨sfsd_with h.1 hk hx.1, fun f hf => by
  unfold withL at hf
  rcases List.mem_append.1 hf with hf | hf
  ·exact h.2 f (List.mem_of_mem_take hf)
  ·rcases List.mem_cons.1 hf with rfl | hf
   ·exact hx.2.sub fun t ht => List.mem_of_mem_drop ht
   ·exact h.2 f (List.mem_of_mem_drop hf)⟩
def OneIsN (d : Int) (w : World) (ts : List Tk) (e : Ending) (w' : World) : Prop := ∃ u x, ∃ n : Nat, e = .returned (.tuple #[u, .int .i64 (n : Int)]) ∧ n ≤ ts.length ∧ (ts ≠ [] → 1 ≤ n) ∧ x.size ≤ 4 * n + 1 ∧ SVn ts d x ∧ x.kind = kindT ts ∧ VAt w' (fun q => w.heap.size ≤ q) u x ∧ Ext w w'
theorem one_nilN (A : Option Addr) (c : Nat) (d : Int) (hd6 : d ≤ 6) (w : World) : Calls Tryz.prog 33 #[.slice A 0 c, .int .i64 d] w (OneIsN d w []) := by
 go_enter Tryz.func33, Tryz.ntmps33
 go_wp2
 refine bodyPost_ret (v := .tuple #[.agg #[.int .u8 0, .int .i64 0, .string ⟨#[]⟩, .slice none 0 0, .slice none 0 0], .int .i64 0]) (by simp [results, Tryz.results33, go_sem]) rfl ?_
 exact ⟨_, .mk 0 0 ⟨#[]⟩ [] [], 0, rfl, by simp, fun h => absurd rfl h, by rw [flat_size]; omega, ⟨svd_flat hd6 (.inl ⟨rfl, rfl, rfl, rfl, rfl⟩) (by decide), num_flat fun P h h0 h1 => h0⟩, rfl, flat_at _ _ 0 _ _, (Keep.refl _ _).alloc _⟩
theorem one_flatN (t : Tk) (ts : List Tk) (A : Option Addr) (c : Nat) (d : Int) (hd6 : d ≤ 6) (S : BS) (w : World) (hl : Sl ETok w S (.slice A (t :: ts).length c) (t :: ts)) (hn : (t :: ts).length ≤ 60) (h4 : (t.kind.toNat : Int) % 6 ≠ 4) (h5 : (t.kind.toNat : Int) % 6 ≠ 5) :
  Calls Tryz.prog 33 #[.slice A (t :: ts).length c, .int .i64 d] w (OneIsN d w (t :: ts)) := by
 obtain ⟨A', c', e, hlc, _⟩ := hl.shape
 obtain ⟨e1, e3⟩ : A = A' ∧ c = c' := by injection e with h1 _ h3; exact ⟨h1, h3⟩
 subst e1 e3
 clear e
 obtain ⟨b, off, c0, rfl, _, hlt, hrd, hcell⟩ := hl.at_ ETok.ok (k := 0) (by simp)
 obtain rfl : c0 = [U8 t.kind, .int .i64 t.n, .string t.s, U8 t.many] := hrd
 have p0 := hcell 0 _ rfl
 have p1 := hcell 1 _ rfl
 have p2 := hcell 2 _ rfl
 have p3 := hcell 3 _ rfl
 have hz : ETok.size = 4 := rfl
 simp only [hz, Nat.zero_mul, Nat.add_zero] at p0 p1 p2 p3
 have hlen : 0 < (t :: ts).length := by simp
 have hne : (t :: ts) ≠ [] := by simp
 have HNE := hid (And.intro hlen hne)
 have H4 := hid (And.intro h4 h5)
 clear hl hcell hz h4 h5 hne
 obtain ⟨tk, tn, tst, tm⟩ := t
 simp only at *
 have HMM := hid (show (Tk.mk tk tn tst tm) ∈ (Tk.mk tk tn tst tm :: ts) from List.mem_cons_self)
 have HKT := hid (show kindT (Tk.mk tk tn tst tm :: ts) = tk % 6 from rfl)
 generalize (Tk.mk tk tn tst tm :: ts) = tl at *
 obtain ⟨r, hr, hr6⟩ : ∃ r : Nat, (tk.toNat : Int) % 6 = r ∧ r < 6 := ⟨tk.toNat % 6, by omega, by omega⟩
 have hr' : r = 0 ∨ r = 1 ∨ r = 2 ∨ r = 3 := by have := H4.out; omega
 clear hr6 H4
 have HRR := hid hr
 rcases hr' with rfl | rfl | rfl | rfl
 ·go_enter Tryz.func33, Tryz.ntmps33
  go_wp2
  refine bodyPost_ret (v := .tuple #[.agg #[.int .u8 0, .int .i64 0, .string ⟨#[]⟩, .slice none 0 0, .slice none 0 0], .int .i64 1]) (by simp [results, Tryz.results33, go_sem]) rfl ?_
  exact ⟨_, .mk 0 0 ⟨#[]⟩ [] [], 1, rfl, HNE.out.1, fun h => Nat.le_refl _, by rw [flat_size]; omega, ⟨svd_flat hd6 (.inl ⟨rfl, rfl, rfl, rfl, rfl⟩) (by decide), num_flat fun P h h0 h1 => h0⟩, kind_of HKT.out HRR.out rfl, flat_at _ _ 0 _ _, ((Keep.refl _ _).alloc _).alloc _⟩
 ·go_enter Tryz.func33, Tryz.ntmps33
  go_wp2
  refine bodyPost_ret (v := .tuple #[.agg #[.int .u8 1, .int .i64 (bits .and .i64 tn 1), .string ⟨#[]⟩, .slice none 0 0, .slice none 0 0], .int .i64 1]) (by simp [results, Tryz.results33, go_sem]) rfl ?_
  exact ⟨_, .mk 1 (bits .and .i64 tn 1) ⟨#[]⟩ [] [], 1, rfl, HNE.out.1, fun h => Nat.le_refl _, by rw [flat_size]; omega, ⟨svd_flat hd6 (.inr (.inl ⟨rfl, i64_and1 tn, rfl, rfl, rfl⟩)) (by decide), num_flat fun P h h0 h1 => by rcases i64_and1 tn with e | e <;> rw [e] <;> assumption⟩, kind_of HKT.out HRR.out rfl, flat_at _ _ 1 _ _, ((Keep.refl _ _).alloc _).alloc _⟩
 ·go_enter Tryz.func33, Tryz.ntmps33
  go_wp2
  refine bodyPost_ret (v := .tuple #[.agg #[.int .u8 2, .int .i64 tn, .string ⟨#[]⟩, .slice none 0 0, .slice none 0 0], .int .i64 1]) (by simp [results, Tryz.results33, go_sem]) rfl ?_
  exact ⟨_, .mk 2 tn ⟨#[]⟩ [] [], 1, rfl, HNE.out.1, fun h => Nat.le_refl _, by rw [flat_size]; omega, ⟨svd_flat hd6 (.inr (.inr (.inl ⟨rfl, rfl, rfl, rfl⟩))) (by decide), num_flat fun P h h0 h1 => h _ HMM.out⟩, kind_of HKT.out HRR.out rfl, flat_at _ _ 2 _ _, ((Keep.refl _ _).alloc _).alloc _⟩
 ·go_enter Tryz.func33, Tryz.ntmps33
  have hb : Blk ((w.alloc (.cells #[.int .u8 0, .int .i64 0, .string ⟨#[]⟩, .slice none 0 0, .slice none 0 0] TVAL)).alloc (.cells #[U8 tk, .int .i64 tn, .string tst, U8 tm] TTOK)) w.heap.size TVAL #[.int .u8 0, .int .i64 0, .string ⟨#[]⟩, .slice none 0 0, .slice none 0 0] := (Blk.new _ _ _).alloc _
  have hE : Ext w ((w.alloc (.cells #[.int .u8 0, .int .i64 0, .string ⟨#[]⟩, .slice none 0 0, .slice none 0 0] TVAL)).alloc (.cells #[U8 tk, .int .i64 tn, .string tst, U8 tm] TTOK)) := ((Keep.refl _ _).alloc _).alloc _
  go_wp2_with fail
  generalize ((w.alloc (.cells #[.int .u8 0, .int .i64 0, .string ⟨#[]⟩, .slice none 0 0, .slice none 0 0] TVAL)).alloc (.cells #[U8 tk, .int .i64 tn, .string tst, U8 tm] TTOK)) = w1 at *
  refine (plain_ok tst w1).mono ?_
  rintro e w2 ⟨rfl, hE2⟩
  have hb2 := hb.keep hE2 id
  have hA := plain_asc40 tst
  generalize textOf (plainL tst) = pl at *
  have HA := hid hA
  have hbr := set5_to hb2 rfl (.int .u8 3) (.int .i64 0) (.string pl) (.slice none 0 0) (.slice none 0 0)
  obtain ⟨t0, t1, t2, t3, t4⟩ := blk5 hbr
  have HT := hid (And.intro t0 (And.intro t1 (And.intro t2 (And.intro t3 t4))))
  have HE := hid ((hE.ext hE2).trans (set5_keep w2 w.heap.size 0 (.int .u8 3) (.int .i64 0) (.string pl) (.slice none 0 0) (.slice none 0 0)) fun q hq e => by omega)
  obtain ⟨q0, q1, q2, q3, q4⟩ := blk5 hb2
  obtain ⟨f0, f1, f2, f3, f4⟩ := sqf5 hb2
  clear t0 t1 t2 t3 t4 hb hE hE2 hb2 hbr hA
  go_wp2
  obtain ⟨t0, t1, t2, t3, t4⟩ := HT.out
  refine bodyPost_ret (v := .tuple #[  .agg #[.int .u8 3, .int .i64 0, .string pl, .slice none 0 0, .slice none 0 0], .int .i64 1]) (by simp [results, Tryz.results33, go_sem, t0, t1, t2, t3, t4]) rfl ?_
  exact ⟨_, .mk 3 0 pl [] [], 1, rfl, HNE.out.1, fun h => Nat.le_refl _, by rw [flat_size]; omega, ⟨svd_flat hd6 (.inr (.inr (.inr (.inl ⟨rfl, rfl, HA.out.1, rfl, rfl⟩)))) HA.out.2, num_flat fun P h h0 h1 => h0⟩, kind_of HKT.out HRR.out rfl, flat_at _ _ 3 _ _, HE.out⟩
def OneUptoN (m : Nat) : Prop := ∀ (ts : List Tk) (n : Nat) (d : Int) (A : Option Addr) (c : Nat) (S : BS) (w : World), n = ts.length → n ≤ m → 0 ≤ d → d ≤ 6 → Sl ETok w S (.slice A n c) ts → Calls Tryz.prog 33 #[.slice A n c, .int .i64 d] w (OneIsN d w ts)
theorem one_listN (m : Nat) (ih : OneUptoN m) (t : Tk) (ts : List Tk) (n : Nat) (A : Option Addr) (c : Nat) (d : Int) (S : BS) (w : World) (hnl : n = (t :: ts).length) (hl : Sl ETok w S (.slice A n c) (t :: ts)) (hn : n ≤ m + 1) (hm : m + 1 ≤ 60) (hd0 : 0 ≤ d) (hd6 : d ≤ 6) (hk : (t.kind.toNat : Int) % 6 = 4) :
  Calls Tryz.prog 33 #[.slice A n c, .int .i64 d] w (OneIsN d w (t :: ts)) := by
 obtain ⟨A', c', e, hlc, hcm⟩ := hl.shape
 obtain ⟨e1, e3⟩ : A = A' ∧ c = c' := by injection e with h1 _ h3; exact ⟨h1, h3⟩
 subst e1 e3
 rw [← hnl] at hlc
 clear e
 unfold maxLen at hcm
 obtain ⟨b, off, c0, rfl, _, hlt, hrd, hcell⟩ := hl.at_ ETok.ok (k := 0) (by simp)
 obtain rfl : c0 = [U8 t.kind, .int .i64 t.n, .string t.s, U8 t.many] := hrd
 have p0 := hcell 0 _ rfl
 have p1 := hcell 1 _ rfl
 have p2 := hcell 2 _ rfl
 have p3 := hcell 3 _ rfl
 have hz : ETok.size = 4 := rfl
 simp only [hz, Nat.zero_mul, Nat.add_zero] at p0 p1 p2 p3
 have hn0 : 0 < n := by rw [hnl]; simp
 have hne0 : ((n : Int) == 0) = false := by simp; omega
 have hsl : Sl ETok w (fun k => S k ∧ k < w.heap.size) (.slice (some ⟨b, off, none⟩) n c) (t :: ts) := hl.more ETok.ok fun k h1 h2 => ⟨h2, h1⟩
 have HL := hid hsl
 have HIH := hid ih
 have HNL := hid hnl
 clear hl hcell hz hsl ih hnl
 obtain ⟨tk, tn, tst, tm⟩ := t
 simp only at *
 have HMM := hid (show (Tk.mk tk tn tst tm) ∈ (Tk.mk tk tn tst tm :: ts) from List.mem_cons_self)
 have HKT := hid (show kindT (Tk.mk tk tn tst tm :: ts) = tk % 6 from rfl)
 generalize (Tk.mk tk tn tst tm :: ts) = tl at *
 have HKK := hid (show (4 : UInt8) = kindT tl from kind_of HKT.out (r := 4) (by simpa using hk) rfl)
 obtain ⟨mk, hmk, hmk4⟩ : ∃ mk : Nat, (tm.toNat : Int) % 4 = mk ∧ mk ≤ 3 := ⟨tm.toNat % 4, by omega, by omega⟩
 obtain ⟨w0, hw0⟩ : ∃ w0, w0 = ((w.alloc (.cells #[.int .u8 0, .int .i64 0, .string ⟨#[]⟩, .slice none 0 0, .slice none 0 0] TVAL)).alloc (.cells #[U8 tk, .int .i64 tn, .string tst, U8 tm] TTOK)).alloc (.cells #[.int .u8 4, .int .i64 0, .string ⟨#[]⟩, .slice none 0 0, .slice none 0 0] TVAL) := ⟨_, rfl⟩
 have hsz : w.heap.size + 3 ≤ w0.heap.size := by rw [hw0]; simp
 have hE0 : Ext w w0 := by rw [hw0]; exact (((Keep.refl _ _).alloc _).alloc _).alloc _
 have hb4 : Blk w0 w.heap.size TVAL #[.int .u8 0, .int .i64 0, .string ⟨#[]⟩, .slice none 0 0, .slice none 0 0] := by rw [hw0]; exact ((Blk.new _ _ _).alloc _).alloc _
 have hb6 : Blk w0 (w.heap.size + 1) TTOK #[U8 tk, .int .i64 tn, .string tst, U8 tm] := by
  have := (Blk.new (w.alloc (.cells #[.int .u8 0, .int .i64 0, .string ⟨#[]⟩, .slice none 0 0, .slice none 0 0] TVAL)) TTOK #[U8 tk, .int .i64 tn, .string tst, U8 tm]).alloc (.cells #[.int .u8 4, .int .i64 0, .string ⟨#[]⟩, .slice none 0 0, .slice none 0 0] TVAL)
  rw [World.size_alloc] at this
  rw [hw0]; exact this
 have hb8 : Blk w0 (w.heap.size + 2) TVAL #[.int .u8 4, .int .i64 0, .string ⟨#[]⟩, .slice none 0 0, .slice none 0 0] := by
  have := Blk.new ((w.alloc (.cells #[.int .u8 0, .int .i64 0, .string ⟨#[]⟩, .slice none 0 0, .slice none 0 0] TVAL)).alloc (.cells #[U8 tk, .int .i64 tn, .string tst, U8 tm] TTOK)) TVAL #[.int .u8 4, .int .i64 0, .string ⟨#[]⟩, .slice none 0 0, .slice none 0 0]
  rw [World.size_alloc, World.size_alloc] at this
  rw [hw0]; exact this
 have HE0 := hid hE0
 have HB4 := hid hb4
 have HB6 := hid hb6
 have HB8 := hid hb8
 clear hE0 hb4 hb6 hb8
 go_enter Tryz.func33, Tryz.ntmps33
 go_wp2_with fail
 simp only [← hw0]
 clear hw0 p0 p1 p2 p3 hk
 go_loopw [7, 9, 10, 11] (fun y i _ _ wr => ∃ (k j : Nat) (xs : List V) (lv : Value), y = .int .i64 k ∧ i = .int .u8 j ∧ j ≤ mk ∧ 1 ≤ k ∧ k ≤ n ∧ xs.length = j ∧ V.sizes xs ≤ 4 * (k - 1) + j ∧ SVsn tl d xs ∧
  Blk wr (w.heap.size + 2) TVAL #[.int .u8 4, .int .i64 0, .string ⟨#[]⟩, lv, .slice none 0 0] ∧ Own EVal wr w0.heap.size TVAL (DS wr w0.heap.size lv) lv xs ∧ Keep (· = w.heap.size + 2) w0 wr) (fun _ i _ _ _ => mk - (intOf i).toNat)
 case atStart => exact ⟨1, 0, [], .slice none 0 0, rfl, rfl, by omega, by omega, by omega, rfl, by simp [V.sizes], ⟨svsd_nil d, fun y h => by cases h⟩, HB8.out, Own.nil _ _ _ _, Keep.refl _ _⟩
 case round =>
  obtain ⟨k, j, xs, lv, rfl, rfl, hj, hk1, hkn, hxl, hvs, hsv, hb8, hown, hkr⟩ := hrel
  obtain ⟨A3, c3, rfl, hl3, hc3⟩ := hown.shape
  have hb6r := HB6.out.keep hkr (by omega)
  have hb4r := HB4.out.keep hkr (by omega)
  have z3 : wr.cell? ⟨w.heap.size + 1, 3, none⟩ = some (U8 tm) := hb6r.cell 3
  obtain ⟨x0, x1, x2, x3, x4⟩ := blk5 hb8
  have hER : Ext w wr := HE0.out.trans hkr fun q hq e => by omega
  have HER := hid hER
  have HKR := hid hkr
  have HO := hid hown
  have HBX := hid hb8
  have HSV := hid hsv
  have HVS := hid (And.intro hvs hxl)
  clear hxl
  have hsR := hER.size
  have hsR0 := hkr.size
  by_cases hjm : j < mk ∧ d < 6
  ·obtain ⟨hjm, hdd⟩ := hjm
   clear hb4r hb6r hER hkr hown hb8 hsv hvs
   obtain ⟨A2, r2, f2⟩ := tail_fact (P := Tryz.prog) ETok.ok ty_tok (HL.out.ext ETok.ok HER.out) (a := (k : Int)) (lo := k) rfl (by have := HNL.out; omega)
   have hcall := HIH.out (tl.drop k) (n - k) (d + 1) A2 (c - k) _ wr (by have := HNL.out; rw [List.length_drop]; omega) (by omega) (by omega) (by omega) f2
   have HC := hid hcall
   clear hcall f2
   go_wp2_with fail
   refine HC.out.mono ?_
   rintro e w5 ⟨u5, x, n5, rfl, hn5, _, hsz5, hsv5, -, hva5, hE5⟩
   rw [List.length_drop] at hn5
   obtain ⟨lv5, ov5, rfl, hl5, ho5⟩ := hva5
   obtain ⟨A5, c5, rfl, _⟩ := hl5.shape
   obtain ⟨A6, c6, rfl, _⟩ := ho5.shape
   have hkn5 : k + n5 ≤ n := by have := HNL.out; omega
   have hE6 : Ext w5 (w5.alloc (.cells #[U8 x.kind, .int .i64 x.n, .string x.s, .slice A5 x.l.length c5, .slice A6 x.o.length c6] TVAL)) := (Keep.refl _ _).alloc _
   have hE7 : Ext (w5.alloc (.cells #[U8 x.kind, .int .i64 x.n, .string x.s, .slice A5 x.l.length c5, .slice A6 x.o.length c6] TVAL)) ((w5.alloc (.cells #[U8 x.kind, .int .i64 x.n, .string x.s, .slice A5 x.l.length c5, .slice A6 x.o.length c6] TVAL)).alloc (.cells #[U8 x.kind, .int .i64 x.n, .string x.s, .slice A5 x.l.length c5, .slice A6 x.o.length c6] TVAL)) := (Keep.refl _ _).alloc _
   have hOb := ((HO.out.ext EVal.ok hE5).ext EVal.ok hE6).ext EVal.ok hE7
   have hRx := RowS.new (w := w5.alloc (.cells #[U8 x.kind, .int .i64 x.n, .string x.s, .slice A5 x.l.length c5, .slice A6 x.o.length c6] TVAL)) (t := TVAL) (sz := 5) (n := 1) (cs := [U8 x.kind, .int .i64 x.n, .string x.s, .slice A5 x.l.length c5, .slice A6 x.o.length c6]) rfl (by simp [maxLen]) (0, 0)
   rw [World.size_alloc] at hRx
   have hva6 : VAt ((w5.alloc (.cells #[U8 x.kind, .int .i64 x.n, .string x.s, .slice A5 x.l.length c5, .slice A6 x.o.length c6] TVAL)).alloc (.cells #[U8 x.kind, .int .i64 x.n, .string x.s, .slice A5 x.l.length c5, .slice A6 x.o.length c6] TVAL)) (fun q => wr.heap.size ≤ q ∧ q < w5.heap.size) (.agg #[U8 x.kind, .int .i64 x.n, .string x.s, .slice A5 x.l.length c5, .slice A6 x.o.length c6]) x := VAt.ext (VAt.ext (VAt.more (S := fun q => wr.heap.size ≤ q) ⟨_, _, rfl, hl5, ho5⟩ fun q h1 h2 => ⟨h2, h1⟩) hE6) hE7
   have HDx := hid (Cells.single (E := EVal) hva6.rd)
   have HOb := hid hOb
   have HRx := hid hRx
   have HE57 := hid ((hE5.ext hE6).ext hE7)
   have HZ5 := hid hE5.size
   have hb8w := HBX.out.keep hE5 id
   have y3 : w5.cell? ⟨w.heap.size + 2, 3, none⟩ = some (.slice A3 xs.length c3) := hb8w.cell 3
   have HB8w := hid ((hb8w.keep hE6 id).keep hE7 id)
   have hs5 : w.heap.size + 2 < w5.heap.size := hb8w.lt
   have hs5r := hE5.size
   clear x0 x1 x2 x3 x4 z3 HC hl5 ho5 hva6 hOb hRx hE5 hE6 hE7 hb8w
   go_wp2_with (at_builtin; refine wpList_own_append2 (ys := [x]) _ rfl (.tmp 71) (.tmp 73) EVal.ok ty_val rfl rfl rfl HOb.out HRx.out HDx.out ?d1 ?d2 ?d3 ?d4 ?_)
   case d1 => exact fun g hg => ⟨fun h => h.2.2 hg, fun h => by have := (HO.out.lt (show (Value.slice A3 xs.length c3).ownBlock = some g from hg)).2; omega⟩
   case d2 => have := HVS.out.2; simp only [List.length_singleton]; omega
   case d3 => have := HVS.out.2; simp only [List.length_singleton, maxLen]; omega
   case d4 => simp only [World.size_alloc]; omega
   intro v' w' hown' hk' hb'
   obtain ⟨A7, c7, hv7, hl7, hc7⟩ := hown'.shape
   rw [show (xs ++ [x]).length = xs.length + 1 from by simp] at hv7
   subst hv7
   have hnb : ∀ g, (Value.slice A3 xs.length c3).ownBlock = some g → w0.heap.size ≤ g ∧ g < wr.heap.size := fun g hg => HO.out.lt hg
   have hb8n := HB8w.out.keep hk' (fun e => by have := (hnb _ e).1; omega)
   have y3' : w'.cell? ⟨w.heap.size + 2, 3, none⟩ = some (.slice A3 xs.length c3) := hb8n.cell 3
   have g3' := hb8n.frozen 3
   have hwz : w'.heap.size ≥ w5.heap.size + 2 := by have := hk'.size; simp at this; exact this
   have hbq : (Value.slice A7 (xs.length + 1) c7).ownBlock = (Value.slice A3 xs.length c3).ownBlock ∨ (Value.slice A7 (xs.length + 1) c7).ownBlock = some (w5.heap.size + 2) := by
    rcases hb' with h | h
    ·exact .inl h
    ·exact .inr (h.trans rfl)
   have ho2 : Own EVal w' w0.heap.size TVAL (DS w' w0.heap.size (.slice A7 (xs.length + 1) c7)) (.slice A7 (xs.length + 1) c7) (xs ++ [x]) :=
    ds_next (N := w5.heap.size + 2) EVal.ok hown' (by have := HZ5.out; omega) hwz (fun q h => ⟨h.1, by have := h.2; omega⟩) hsR0 (fun g hg => (hnb g hg).2) hbq
   have hset : Keep (· = w.heap.size + 2) w' (w'.setCell ⟨w.heap.size + 2, 3, none⟩ (.slice A7 (xs.length + 1) c7)) := Keep.setAt (Keep.refl (· = w.heap.size + 2) w') (fun _ => rfl) 3 _
   have ho3 : Own EVal (w'.setCell ⟨w.heap.size + 2, 3, none⟩ (.slice A7 (xs.length + 1) c7)) w0.heap.size TVAL (DS (w'.setCell ⟨w.heap.size + 2, 3, none⟩ (.slice A7 (xs.length + 1) c7)) w0.heap.size (.slice A7 (xs.length + 1) c7)) (.slice A7 (xs.length + 1) c7) (xs ++ [x]) :=
    (ho2.keep EVal.ok hset (fun q hq e => by have := hq.1; omega) (fun g hg e => by have := (ho2.lt hg).1; omega)).more EVal.ok fun q _ h => ⟨h.1, Nat.lt_of_lt_of_le h.2.1 hset.size, h.2.2⟩
   have hblk : Blk (w'.setCell ⟨w.heap.size + 2, 3, none⟩ (.slice A7 (xs.length + 1) c7)) (w.heap.size + 2) TVAL #[.int .u8 4, .int .i64 0, .string ⟨#[]⟩, .slice A7 (xs.length + 1) c7, .slice none 0 0] := hb8n.set_ 3 _
   have hkk : Keep (· = w.heap.size + 2) w0 (w'.setCell ⟨w.heap.size + 2, 3, none⟩ (.slice A7 (xs.length + 1) c7)) :=
    ((HKR.out.trans (HE57.out.mono fun _ _ x => x.elim) (fun _ _ h => h)).trans hk' (fun q hq e => by have := (hnb q e).1; omega)).trans hset (fun q _ e => e)
   have HREL := hid (And.intro hblk (And.intro ho3 hkk))
   have HSV2 := hid (svsn_snoc HSV.out hsv5)
   have HVS2 := hid (show V.sizes (xs ++ [x]) ≤ 4 * (k + n5 - 1) + (j + 1) from by
    have := HVS.out.1
    rw [V.sizes_append]
    simp only [V.sizes]
    omega)
   have hlx : (xs ++ [x]).length = j + 1 := by rw [List.length_append, HVS.out.2]; rfl
   have HLX := hid hlx
   clear hown' hk' hb' ho2 ho3 hset hblk hkk HO HOb HRx HDx HE57 HB8w HBX HSV HVS HKR hbq hb8n hsv5 hlx hnb
   go_wp2
   exact ⟨⟨k + n5, j + 1, xs ++ [x], _, by go_num, by go_num, by omega, by omega, by omega, HLX.out, HVS2.out, HSV2.out, HREL.out.1, HREL.out.2.1, HREL.out.2.2⟩, by simp [intOf]; omega⟩
  ·have hat0 : Sl EVal wr (fun q => w0.heap.size ≤ q) (.slice A3 xs.length c3) xs := (HO.out.sl EVal.ok).more EVal.ok fun q _ h => h.elim (fun h => h.1) fun h => (HO.out.lt h).1
   clear hb6r hER hkr hown hb8 hsv hvs
   by_cases hjm2 : j < mk
   ·have hdd : ¬ d < 6 := fun h => hjm ⟨hjm2, h⟩
    clear hjm
    have hbr := set5_to hb4r rfl (.int .u8 4) (.int .i64 0) (.string ⟨#[]⟩) (.slice A3 xs.length c3) (.slice none 0 0)
    obtain ⟨t0, t1, t2, t3, t4⟩ := blk5 hbr
    have hk5 := set5_keep wr w.heap.size 0 (.int .u8 4) (.int .i64 0) (.string ⟨#[]⟩) (.slice A3 xs.length c3) (.slice none 0 0)
    have hat : VAt (set5 wr w.heap.size 0 (.int .u8 4) (.int .i64 0) (.string ⟨#[]⟩) (.slice A3 xs.length c3) (.slice none 0 0)) (fun q => w.heap.size ≤ q) (.agg #[.int .u8 4, .int .i64 0, .string ⟨#[]⟩, (.slice A3 xs.length c3), (.slice none 0 0)]) (.mk 4 0 ⟨#[]⟩ xs []) := ⟨_, _, rfl, (hat0.keep EVal.ok hk5 (fun q hq e => by omega)).more EVal.ok fun q _ h => by omega, Sl.nil _ _⟩
    have HT := hid (And.intro t0 (And.intro t1 (And.intro t2 (And.intro t3 t4))))
    have HR := hid (show OneIsN d w tl (.returned (.tuple #[.agg #[.int .u8 4, .int .i64 0, .string ⟨#[]⟩, (.slice A3 xs.length c3), (.slice none 0 0)], .int .i64 (k : Int)])) (set5 wr w.heap.size 0 (.int .u8 4) (.int .i64 0) (.string ⟨#[]⟩) (.slice A3 xs.length c3) (.slice none 0 0)) from
     ⟨_, (.mk 4 0 ⟨#[]⟩ xs []), k, rfl, by have := HNL.out; omega, fun _ => hk1, by have := HVS.out.1; rw [V.size]; simp only [F.sizes]; omega, (svn_list hd6 HSV.out), HKK.out, hat, HER.out.trans hk5 fun q hq e => by omega⟩)
    obtain ⟨q0, q1, q2, q3, q4⟩ := blk5 hb4r
    obtain ⟨f0, f1, f2, f3, f4⟩ := sqf5 hb4r
    clear t0 t1 t2 t3 t4 hbr hb4r hat hk5
    go_wp2
    obtain ⟨t0, t1, t2, t3, t4⟩ := HT.out
    refine bodyPost_ret (v := .tuple #[.agg #[.int .u8 4, .int .i64 0, .string ⟨#[]⟩, (.slice A3 xs.length c3), (.slice none 0 0)], .int .i64 (k : Int)]) (by simp [results, Tryz.results33, go_sem, t0, t1, t2, t3, t4]) rfl HR.out
   ·clear hjm
    have hbr := set5_to hb4r rfl (.int .u8 4) (.int .i64 0) (.string ⟨#[]⟩) (.slice A3 xs.length c3) (.slice none 0 0)
    obtain ⟨t0, t1, t2, t3, t4⟩ := blk5 hbr
    have hk5 := set5_keep wr w.heap.size 0 (.int .u8 4) (.int .i64 0) (.string ⟨#[]⟩) (.slice A3 xs.length c3) (.slice none 0 0)
    have hat : VAt (set5 wr w.heap.size 0 (.int .u8 4) (.int .i64 0) (.string ⟨#[]⟩) (.slice A3 xs.length c3) (.slice none 0 0)) (fun q => w.heap.size ≤ q) (.agg #[.int .u8 4, .int .i64 0, .string ⟨#[]⟩, (.slice A3 xs.length c3), (.slice none 0 0)]) (.mk 4 0 ⟨#[]⟩ xs []) := ⟨_, _, rfl, (hat0.keep EVal.ok hk5 (fun q hq e => by omega)).more EVal.ok fun q _ h => by omega, Sl.nil _ _⟩
    have HT := hid (And.intro t0 (And.intro t1 (And.intro t2 (And.intro t3 t4))))
    have HR := hid (show OneIsN d w tl (.returned (.tuple #[.agg #[.int .u8 4, .int .i64 0, .string ⟨#[]⟩, (.slice A3 xs.length c3), (.slice none 0 0)], .int .i64 (k : Int)])) (set5 wr w.heap.size 0 (.int .u8 4) (.int .i64 0) (.string ⟨#[]⟩) (.slice A3 xs.length c3) (.slice none 0 0)) from
     ⟨_, (.mk 4 0 ⟨#[]⟩ xs []), k, rfl, by have := HNL.out; omega, fun _ => hk1, by have := HVS.out.1; rw [V.size]; simp only [F.sizes]; omega, (svn_list hd6 HSV.out), HKK.out, hat, HER.out.trans hk5 fun q hq e => by omega⟩)
    obtain ⟨q0, q1, q2, q3, q4⟩ := blk5 hb4r
    obtain ⟨f0, f1, f2, f3, f4⟩ := sqf5 hb4r
    clear t0 t1 t2 t3 t4 hbr hb4r hat hk5
    go_wp2
    obtain ⟨t0, t1, t2, t3, t4⟩ := HT.out
    refine bodyPost_ret (v := .tuple #[.agg #[.int .u8 4, .int .i64 0, .string ⟨#[]⟩, (.slice A3 xs.length c3), (.slice none 0 0)], .int .i64 (k : Int)]) (by simp [results, Tryz.results33, go_sem, t0, t1, t2, t3, t4]) rfl HR.out
theorem one_objN (m : Nat) (ih : OneUptoN m) (t : Tk) (ts : List Tk) (n : Nat) (A : Option Addr) (c : Nat) (d : Int) (S : BS) (w : World) (hnl : n = (t :: ts).length) (hl : Sl ETok w S (.slice A n c) (t :: ts)) (hn : n ≤ m + 1) (hm : m + 1 ≤ 60) (hd0 : 0 ≤ d) (hd6 : d ≤ 6) (hk : (t.kind.toNat : Int) % 6 = 5) :
  Calls Tryz.prog 33 #[.slice A n c, .int .i64 d] w (OneIsN d w (t :: ts)) := by
 obtain ⟨A', c', e, hlc, hcm⟩ := hl.shape
 obtain ⟨e1, e3⟩ : A = A' ∧ c = c' := by injection e with h1 _ h3; exact ⟨h1, h3⟩
 subst e1 e3
 rw [← hnl] at hlc
 clear e
 unfold maxLen at hcm
 obtain ⟨b, off, c0, rfl, _, hlt, hrd, hcell⟩ := hl.at_ ETok.ok (k := 0) (by simp)
 obtain rfl : c0 = [U8 t.kind, .int .i64 t.n, .string t.s, U8 t.many] := hrd
 have p0 := hcell 0 _ rfl
 have p1 := hcell 1 _ rfl
 have p2 := hcell 2 _ rfl
 have p3 := hcell 3 _ rfl
 have hz : ETok.size = 4 := rfl
 simp only [hz, Nat.zero_mul, Nat.add_zero] at p0 p1 p2 p3
 have hn0 : 0 < n := by rw [hnl]; simp
 have hne0 : ((n : Int) == 0) = false := by simp; omega
 have hsl : Sl ETok w (fun k => S k ∧ k < w.heap.size) (.slice (some ⟨b, off, none⟩) n c) (t :: ts) := hl.more ETok.ok fun k h1 h2 => ⟨h2, h1⟩
 have HL := hid hsl
 have HIH := hid ih
 have HNL := hid hnl
 clear hl hcell hz hsl ih hnl
 obtain ⟨tk, tn, tst, tm⟩ := t
 simp only at *
 have HMM := hid (show (Tk.mk tk tn tst tm) ∈ (Tk.mk tk tn tst tm :: ts) from List.mem_cons_self)
 have HKT := hid (show kindT (Tk.mk tk tn tst tm :: ts) = tk % 6 from rfl)
 generalize (Tk.mk tk tn tst tm :: ts) = tl at *
 have HKK := hid (show (5 : UInt8) = kindT tl from kind_of HKT.out (r := 5) (by simpa using hk) rfl)
 obtain ⟨mk, hmk, hmk4⟩ : ∃ mk : Nat, (tm.toNat : Int) % 4 = mk ∧ mk ≤ 3 := ⟨tm.toNat % 4, by omega, by omega⟩
 obtain ⟨w0, hw0⟩ : ∃ w0, w0 = ((w.alloc (.cells #[.int .u8 0, .int .i64 0, .string ⟨#[]⟩, .slice none 0 0, .slice none 0 0] TVAL)).alloc (.cells #[U8 tk, .int .i64 tn, .string tst, U8 tm] TTOK)).alloc (.cells #[.int .u8 5, .int .i64 0, .string ⟨#[]⟩, .slice none 0 0, .slice none 0 0] TVAL) := ⟨_, rfl⟩
 have hsz : w.heap.size + 3 ≤ w0.heap.size := by rw [hw0]; simp
 have hE0 : Ext w w0 := by rw [hw0]; exact (((Keep.refl _ _).alloc _).alloc _).alloc _
 have hb4 : Blk w0 w.heap.size TVAL #[.int .u8 0, .int .i64 0, .string ⟨#[]⟩, .slice none 0 0, .slice none 0 0] := by rw [hw0]; exact ((Blk.new _ _ _).alloc _).alloc _
 have hb6 : Blk w0 (w.heap.size + 1) TTOK #[U8 tk, .int .i64 tn, .string tst, U8 tm] := by
  have := (Blk.new (w.alloc (.cells #[.int .u8 0, .int .i64 0, .string ⟨#[]⟩, .slice none 0 0, .slice none 0 0] TVAL)) TTOK #[U8 tk, .int .i64 tn, .string tst, U8 tm]).alloc (.cells #[.int .u8 5, .int .i64 0, .string ⟨#[]⟩, .slice none 0 0, .slice none 0 0] TVAL)
  rw [World.size_alloc] at this
  rw [hw0]; exact this
 have hb8 : Blk w0 (w.heap.size + 2) TVAL #[.int .u8 5, .int .i64 0, .string ⟨#[]⟩, .slice none 0 0, .slice none 0 0] := by
  have := Blk.new ((w.alloc (.cells #[.int .u8 0, .int .i64 0, .string ⟨#[]⟩, .slice none 0 0, .slice none 0 0] TVAL)).alloc (.cells #[U8 tk, .int .i64 tn, .string tst, U8 tm] TTOK)) TVAL #[.int .u8 5, .int .i64 0, .string ⟨#[]⟩, .slice none 0 0, .slice none 0 0]
  rw [World.size_alloc, World.size_alloc] at this
  rw [hw0]; exact this
 have HE0 := hid hE0
 have HB4 := hid hb4
 have HB6 := hid hb6
 have HB8 := hid hb8
 clear hE0 hb4 hb6 hb8
 go_enter Tryz.func33, Tryz.ntmps33
 go_wp2_with fail
 simp only [← hw0]
 clear hw0 p0 p1 p2 p3 hk
 go_loopw [7, 13, 14, 15, 16] (fun y i _ _ _ wr => ∃ (k j : Nat) (xs : List F) (ov : Value), y = .int .i64 k ∧ i = .int .u8 j ∧ j ≤ mk ∧ 1 ≤ k ∧ k ≤ n ∧ F.sizes xs ≤ 4 * (k - 1) + j ∧ SFsn tl d xs ∧ Rise xs ∧
  Blk wr (w.heap.size + 2) TVAL #[.int .u8 5, .int .i64 0, .string ⟨#[]⟩, .slice none 0 0, ov] ∧ Sl EField wr (fun q => w0.heap.size ≤ q) ov xs ∧ Keep (· = w.heap.size + 2) w0 wr) (fun _ i _ _ _ _ => mk - (intOf i).toNat)
 case atStart => exact ⟨1, 0, [], .slice none 0 0, rfl, rfl, by omega, by omega, by omega, by simp [F.sizes], ⟨sfsd_nil d, fun y h => by cases h⟩, trivial, HB8.out, Sl.nil _ _, Keep.refl _ _⟩
 case round =>
  obtain ⟨k, j, xs, lv, rfl, rfl, hj, hk1, hkn, hvs, hsv, hri, hb8, hown, hkr⟩ := hrel
  obtain ⟨A3, c3, rfl, hl3, hc3⟩ := hown.shape
  have hb6r := HB6.out.keep hkr (by omega)
  have hb4r := HB4.out.keep hkr (by omega)
  have z3 : wr.cell? ⟨w.heap.size + 1, 3, none⟩ = some (U8 tm) := hb6r.cell 3
  obtain ⟨x0, x1, x2, x3, x4⟩ := blk5 hb8
  have hER : Ext w wr := HE0.out.trans hkr fun q hq e => by omega
  have HER := hid hER
  have HKR := hid hkr
  have HO := hid hown
  have HBX := hid hb8
  have HSV := hid (And.intro hsv hri)
  have HVS := hid hvs
  have hsR := hER.size
  have hsR0 := hkr.size
  by_cases hjm : j < mk ∧ d < 6
  ·obtain ⟨hjm, hdd⟩ := hjm
   clear hb4r hb6r hER hkr hown hb8 hsv hvs hri
   by_cases hkl : k < n
   ·obtain ⟨b1, o1, c0, e1, _, _, hrd, hcell⟩ := (HL.out.ext ETok.ok HER.out).at_ ETok.ok (k := k) (by have := HNL.out; omega)
    injection e1 with e1
    injection e1 with e1 e2 _
    subst e1 e2
    obtain rfl : c0 = [U8 (tl[k]'(by have := HNL.out; omega)).kind, .int .i64 (tl[k]'(by have := HNL.out; omega)).n, .string (tl[k]'(by have := HNL.out; omega)).s, U8 (tl[k]'(by have := HNL.out; omega)).many] := hrd
    have i2 := hcell 2 _ rfl
    have hz : ETok.size = 4 := rfl
    simp only [hz] at i2
    generalize (tl[k]'(by have := HNL.out; omega)).s = ks at *
    clear hcell hz
    go_wp2_with fail
    refine (plain_ok ks wr).mono ?_
    rintro e w4 ⟨rfl, hE4⟩
    have hak := plain_asc40 ks
    generalize textOf (plainL ks) = key at *
    have HAK := hid hak
    have HE4 := hid hE4
    have z3' := ((HB6.out.keep HKR.out (by omega)).keep hE4 id).cell 3
    clear hak hE4 i2 z3
    have z3 := z3'
    clear z3'
    obtain ⟨A2, r2, f2⟩ := tail_fact (P := Tryz.prog) ETok.ok ty_tok (HL.out.ext ETok.ok (HER.out.ext HE4.out)) (a := (k : Int)) (lo := k) rfl (by have := HNL.out; omega)
    have hcall := HIH.out (tl.drop k) (n - k) (d + 1) A2 (c - k) _ w4 (by have := HNL.out; rw [List.length_drop]; omega) (by omega) (by omega) (by omega) f2
    have HC := hid hcall
    clear hcall f2
    go_wp2_with fail
    refine HC.out.mono ?_
    rintro e w5 ⟨u5, x, n5, rfl, hn5, _, hsz5, hsv5, -, hva5, hE5⟩
    rw [List.length_drop] at hn5
    obtain ⟨lv5, ov5, rfl, hl5, ho5⟩ := hva5
    obtain ⟨A5, c5, rfl, _⟩ := hl5.shape
    obtain ⟨A6, c6, rfl, _⟩ := ho5.shape
    have hkn5 : k + n5 ≤ n := by have := HNL.out; omega
    have hE6 : Ext w5 (w5.alloc (.cells #[U8 x.kind, .int .i64 x.n, .string x.s, .slice A5 x.l.length c5, .slice A6 x.o.length c6] TVAL)) := (Keep.refl _ _).alloc _
    have hs5r : wr.heap.size ≤ w5.heap.size := (HE4.out.ext hE5).size
    have hs4r : wr.heap.size ≤ w4.heap.size := HE4.out.size
    have hxs := (((HO.out.ext EField.ok HE4.out).ext EField.ok hE5).ext EField.ok hE6)
    have hxv : VAt (w5.alloc (.cells #[U8 x.kind, .int .i64 x.n, .string x.s, .slice A5 x.l.length c5, .slice A6 x.o.length c6] TVAL)) (fun q => w0.heap.size ≤ q) (.agg #[U8 x.kind, .int .i64 x.n, .string x.s, .slice A5 x.l.length c5, .slice A6 x.o.length c6]) x := VAt.ext (VAt.more (S := fun q => w4.heap.size ≤ q) ⟨_, _, rfl, hl5, ho5⟩ fun q h1 h2 => by omega) hE6
    have hlw : xs.length ≤ 100000 := by have := F.sizes_len xs; have := HVS.out; omega
    have HW := hid (lawwith_ok xs key x (fun q => w0.heap.size ≤ q) A3 c3 _ _ hxs hxv hlw)
    have HE57 := hid ((HE4.out.ext hE5).ext hE6)
    have hb8w := (HBX.out.keep (HE4.out.ext hE5) id)
    have y4 : w5.cell? ⟨w.heap.size + 2, 4, none⟩ = some (.slice A3 xs.length c3) := hb8w.cell 4
    have HB8w := hid (hb8w.keep hE6 id)
    have hs5 : w.heap.size + 2 < w5.heap.size := hb8w.lt
    clear x0 x1 x2 x3 x4 z3 HC hl5 ho5 hxs hxv hE5 hE6 hb8w hlw
    go_wp2_with fail
    refine HW.out.mono ?_
    rintro e w6 ⟨v6, rfl, hown6, hE6⟩
    obtain ⟨A7, c7, rfl, hl7, hc7⟩ := hown6.shape
    have hb8n := HB8w.out.keep hE6 id
    have y4' : w6.cell? ⟨w.heap.size + 2, 4, none⟩ = some (.slice A3 xs.length c3) := hb8n.cell 4
    have g4' := hb8n.frozen 4
    have hset : Keep (· = w.heap.size + 2) w6 (w6.setCell ⟨w.heap.size + 2, 4, none⟩ (.slice A7 (withL xs key x).length c7)) := Keep.setAt (Keep.refl (· = w.heap.size + 2) w6) (fun _ => rfl) 4 _
    have hsl : Sl EField (w6.setCell ⟨w.heap.size + 2, 4, none⟩ (.slice A7 (withL xs key x).length c7)) (fun q => w0.heap.size ≤ q) (.slice A7 (withL xs key x).length c7) (withL xs key x) :=
     ((hown6.sl EField.ok).more EField.ok (S' := fun q => w0.heap.size ≤ q) fun q _ h => h.elim (fun h => h.1) fun h => by have := (hown6.lt h).1; rw [World.size_alloc] at this; omega).keep EField.ok hset fun q hq e => by omega
    have hblk : Blk (w6.setCell ⟨w.heap.size + 2, 4, none⟩ (.slice A7 (withL xs key x).length c7)) (w.heap.size + 2) TVAL #[.int .u8 5, .int .i64 0, .string ⟨#[]⟩, .slice none 0 0, .slice A7 (withL xs key x).length c7] := hb8n.set_ 4 _
    have hkk : Keep (· = w.heap.size + 2) w0 (w6.setCell ⟨w.heap.size + 2, 4, none⟩ (.slice A7 (withL xs key x).length c7)) :=
     ((HKR.out.trans (HE57.out.mono fun _ _ x => x.elim) (fun _ _ h => h)).trans (hE6.mono fun _ _ x => x.elim) (fun q hq e => e)).trans hset (fun q _ e => e)
    have HREL := hid (And.intro hblk (And.intro hsl hkk))
    have HSV2 := hid (And.intro (sfsn_with HSV.out.1 HAK.out hsv5) (withL_rise (key := key) (x := x) HSV.out.2))
    have HVS2 := hid (show F.sizes (withL xs key x) ≤ 4 * (k + n5 - 1) + (j + 1) from by
     have := HVS.out
     have := withL_sizes xs key x
     omega)
    generalize withL xs key x = ys at *
    clear hown6 hE6 hset hsl hblk hkk HO HE57 HB8w HBX HSV HVS HKR hb8n hsv5 HW
    go_wp2
    exact ⟨⟨k + n5, j + 1, ys, _, by go_num, by go_num, by omega, by omega, by omega, HVS2.out, HSV2.out.1, HSV2.out.2, HREL.out.1, HREL.out.2.1, HREL.out.2.2⟩, by simp [intOf]; omega⟩
   ·have HAK := hid (show Asc40 ⟨#[]⟩ from ⟨⟨fun c hc => by simp at hc, by decide⟩, by decide⟩)
    have HE4 := hid (Keep.refl (fun _ => False) wr)
    obtain ⟨A2, r2, f2⟩ := tail_fact (P := Tryz.prog) ETok.ok ty_tok (HL.out.ext ETok.ok (HER.out.ext HE4.out)) (a := (k : Int)) (lo := k) rfl (by have := HNL.out; omega)
    have hcall := HIH.out (tl.drop k) (n - k) (d + 1) A2 (c - k) _ wr (by have := HNL.out; rw [List.length_drop]; omega) (by omega) (by omega) (by omega) f2
    have HC := hid hcall
    clear hcall f2
    go_wp2_with fail
    refine HC.out.mono ?_
    rintro e w5 ⟨u5, x, n5, rfl, hn5, _, hsz5, hsv5, -, hva5, hE5⟩
    rw [List.length_drop] at hn5
    obtain ⟨lv5, ov5, rfl, hl5, ho5⟩ := hva5
    obtain ⟨A5, c5, rfl, _⟩ := hl5.shape
    obtain ⟨A6, c6, rfl, _⟩ := ho5.shape
    have hkn5 : k + n5 ≤ n := by have := HNL.out; omega
    have hE6 : Ext w5 (w5.alloc (.cells #[U8 x.kind, .int .i64 x.n, .string x.s, .slice A5 x.l.length c5, .slice A6 x.o.length c6] TVAL)) := (Keep.refl _ _).alloc _
    have hs5r : wr.heap.size ≤ w5.heap.size := (HE4.out.ext hE5).size
    have hs4r : wr.heap.size ≤ wr.heap.size := HE4.out.size
    have hxs := (((HO.out.ext EField.ok HE4.out).ext EField.ok hE5).ext EField.ok hE6)
    have hxv : VAt (w5.alloc (.cells #[U8 x.kind, .int .i64 x.n, .string x.s, .slice A5 x.l.length c5, .slice A6 x.o.length c6] TVAL)) (fun q => w0.heap.size ≤ q) (.agg #[U8 x.kind, .int .i64 x.n, .string x.s, .slice A5 x.l.length c5, .slice A6 x.o.length c6]) x := VAt.ext (VAt.more (S := fun q => wr.heap.size ≤ q) ⟨_, _, rfl, hl5, ho5⟩ fun q h1 h2 => by omega) hE6
    have hlw : xs.length ≤ 100000 := by have := F.sizes_len xs; have := HVS.out; omega
    have HW := hid (lawwith_ok xs ⟨#[]⟩ x (fun q => w0.heap.size ≤ q) A3 c3 _ _ hxs hxv hlw)
    have HE57 := hid ((HE4.out.ext hE5).ext hE6)
    have hb8w := (HBX.out.keep (HE4.out.ext hE5) id)
    have y4 : w5.cell? ⟨w.heap.size + 2, 4, none⟩ = some (.slice A3 xs.length c3) := hb8w.cell 4
    have HB8w := hid (hb8w.keep hE6 id)
    have hs5 : w.heap.size + 2 < w5.heap.size := hb8w.lt
    clear x0 x1 x2 x3 x4 z3 HC hl5 ho5 hxs hxv hE5 hE6 hb8w hlw
    go_wp2_with fail
    refine HW.out.mono ?_
    rintro e w6 ⟨v6, rfl, hown6, hE6⟩
    obtain ⟨A7, c7, rfl, hl7, hc7⟩ := hown6.shape
    have hb8n := HB8w.out.keep hE6 id
    have y4' : w6.cell? ⟨w.heap.size + 2, 4, none⟩ = some (.slice A3 xs.length c3) := hb8n.cell 4
    have g4' := hb8n.frozen 4
    have hset : Keep (· = w.heap.size + 2) w6 (w6.setCell ⟨w.heap.size + 2, 4, none⟩ (.slice A7 (withL xs ⟨#[]⟩ x).length c7)) := Keep.setAt (Keep.refl (· = w.heap.size + 2) w6) (fun _ => rfl) 4 _
    have hsl : Sl EField (w6.setCell ⟨w.heap.size + 2, 4, none⟩ (.slice A7 (withL xs ⟨#[]⟩ x).length c7)) (fun q => w0.heap.size ≤ q) (.slice A7 (withL xs ⟨#[]⟩ x).length c7) (withL xs ⟨#[]⟩ x) :=
     ((hown6.sl EField.ok).more EField.ok (S' := fun q => w0.heap.size ≤ q) fun q _ h => h.elim (fun h => h.1) fun h => by have := (hown6.lt h).1; rw [World.size_alloc] at this; omega).keep EField.ok hset fun q hq e => by omega
    have hblk : Blk (w6.setCell ⟨w.heap.size + 2, 4, none⟩ (.slice A7 (withL xs ⟨#[]⟩ x).length c7)) (w.heap.size + 2) TVAL #[.int .u8 5, .int .i64 0, .string ⟨#[]⟩, .slice none 0 0, .slice A7 (withL xs ⟨#[]⟩ x).length c7] := hb8n.set_ 4 _
    have hkk : Keep (· = w.heap.size + 2) w0 (w6.setCell ⟨w.heap.size + 2, 4, none⟩ (.slice A7 (withL xs ⟨#[]⟩ x).length c7)) :=
     ((HKR.out.trans (HE57.out.mono fun _ _ x => x.elim) (fun _ _ h => h)).trans (hE6.mono fun _ _ x => x.elim) (fun q hq e => e)).trans hset (fun q _ e => e)
    have HREL := hid (And.intro hblk (And.intro hsl hkk))
    have HSV2 := hid (And.intro (sfsn_with HSV.out.1 HAK.out hsv5) (withL_rise (key := ⟨#[]⟩) (x := x) HSV.out.2))
    have HVS2 := hid (show F.sizes (withL xs ⟨#[]⟩ x) ≤ 4 * (k + n5 - 1) + (j + 1) from by
     have := HVS.out
     have := withL_sizes xs ⟨#[]⟩ x
     omega)
    generalize withL xs ⟨#[]⟩ x = ys at *
    clear hown6 hE6 hset hsl hblk hkk HO HE57 HB8w HBX HSV HVS HKR hb8n hsv5 HW
    go_wp2
    exact ⟨⟨k + n5, j + 1, ys, _, by go_num, by go_num, by omega, by omega, by omega, HVS2.out, HSV2.out.1, HSV2.out.2, HREL.out.1, HREL.out.2.1, HREL.out.2.2⟩, by simp [intOf]; omega⟩
  ·have hat0 : Sl EField wr (fun q => w0.heap.size ≤ q) (.slice A3 xs.length c3) xs := HO.out
   clear hb6r hER hkr hown hb8 hsv hvs hri
   by_cases hjm2 : j < mk
   ·have hdd : ¬ d < 6 := fun h => hjm ⟨hjm2, h⟩
    clear hjm
    have hbr := set5_to hb4r rfl (.int .u8 5) (.int .i64 0) (.string ⟨#[]⟩) (.slice none 0 0) (.slice A3 xs.length c3)
    obtain ⟨t0, t1, t2, t3, t4⟩ := blk5 hbr
    have hk5 := set5_keep wr w.heap.size 0 (.int .u8 5) (.int .i64 0) (.string ⟨#[]⟩) (.slice none 0 0) (.slice A3 xs.length c3)
    have hat : VAt (set5 wr w.heap.size 0 (.int .u8 5) (.int .i64 0) (.string ⟨#[]⟩) (.slice none 0 0) (.slice A3 xs.length c3)) (fun q => w.heap.size ≤ q) (.agg #[.int .u8 5, .int .i64 0, .string ⟨#[]⟩, (.slice none 0 0), (.slice A3 xs.length c3)]) (.mk 5 0 ⟨#[]⟩ [] xs) := ⟨_, _, rfl, Sl.nil _ _, (hat0.keep EField.ok hk5 (fun q hq e => by omega)).more EField.ok fun q _ h => by omega⟩
    have HT := hid (And.intro t0 (And.intro t1 (And.intro t2 (And.intro t3 t4))))
    have HR := hid (show OneIsN d w tl (.returned (.tuple #[.agg #[.int .u8 5, .int .i64 0, .string ⟨#[]⟩, (.slice none 0 0), (.slice A3 xs.length c3)], .int .i64 (k : Int)])) (set5 wr w.heap.size 0 (.int .u8 5) (.int .i64 0) (.string ⟨#[]⟩) (.slice none 0 0) (.slice A3 xs.length c3)) from
     ⟨_, (.mk 5 0 ⟨#[]⟩ [] xs), k, rfl, by have := HNL.out; omega, fun _ => hk1, by have := HVS.out; rw [V.size]; simp only [V.sizes]; omega, (svn_obj hd6 HSV.out.1 HSV.out.2), HKK.out, hat, HER.out.trans hk5 fun q hq e => by omega⟩)
    obtain ⟨q0, q1, q2, q3, q4⟩ := blk5 hb4r
    obtain ⟨f0, f1, f2, f3, f4⟩ := sqf5 hb4r
    clear t0 t1 t2 t3 t4 hbr hb4r hat hk5
    go_wp2
    obtain ⟨t0, t1, t2, t3, t4⟩ := HT.out
    refine bodyPost_ret (v := .tuple #[.agg #[.int .u8 5, .int .i64 0, .string ⟨#[]⟩, (.slice none 0 0), (.slice A3 xs.length c3)], .int .i64 (k : Int)]) (by simp [results, Tryz.results33, go_sem, t0, t1, t2, t3, t4]) rfl HR.out
   ·clear hjm
    have hbr := set5_to hb4r rfl (.int .u8 5) (.int .i64 0) (.string ⟨#[]⟩) (.slice none 0 0) (.slice A3 xs.length c3)
    obtain ⟨t0, t1, t2, t3, t4⟩ := blk5 hbr
    have hk5 := set5_keep wr w.heap.size 0 (.int .u8 5) (.int .i64 0) (.string ⟨#[]⟩) (.slice none 0 0) (.slice A3 xs.length c3)
    have hat : VAt (set5 wr w.heap.size 0 (.int .u8 5) (.int .i64 0) (.string ⟨#[]⟩) (.slice none 0 0) (.slice A3 xs.length c3)) (fun q => w.heap.size ≤ q) (.agg #[.int .u8 5, .int .i64 0, .string ⟨#[]⟩, (.slice none 0 0), (.slice A3 xs.length c3)]) (.mk 5 0 ⟨#[]⟩ [] xs) := ⟨_, _, rfl, Sl.nil _ _, (hat0.keep EField.ok hk5 (fun q hq e => by omega)).more EField.ok fun q _ h => by omega⟩
    have HT := hid (And.intro t0 (And.intro t1 (And.intro t2 (And.intro t3 t4))))
    have HR := hid (show OneIsN d w tl (.returned (.tuple #[.agg #[.int .u8 5, .int .i64 0, .string ⟨#[]⟩, (.slice none 0 0), (.slice A3 xs.length c3)], .int .i64 (k : Int)])) (set5 wr w.heap.size 0 (.int .u8 5) (.int .i64 0) (.string ⟨#[]⟩) (.slice none 0 0) (.slice A3 xs.length c3)) from
     ⟨_, (.mk 5 0 ⟨#[]⟩ [] xs), k, rfl, by have := HNL.out; omega, fun _ => hk1, by have := HVS.out; rw [V.size]; simp only [V.sizes]; omega, (svn_obj hd6 HSV.out.1 HSV.out.2), HKK.out, hat, HER.out.trans hk5 fun q hq e => by omega⟩)
    obtain ⟨q0, q1, q2, q3, q4⟩ := blk5 hb4r
    obtain ⟨f0, f1, f2, f3, f4⟩ := sqf5 hb4r
    clear t0 t1 t2 t3 t4 hbr hb4r hat hk5
    go_wp2
    obtain ⟨t0, t1, t2, t3, t4⟩ := HT.out
    refine bodyPost_ret (v := .tuple #[.agg #[.int .u8 5, .int .i64 0, .string ⟨#[]⟩, (.slice none 0 0), (.slice A3 xs.length c3)], .int .i64 (k : Int)]) (by simp [results, Tryz.results33, go_sem, t0, t1, t2, t3, t4]) rfl HR.out
theorem one_uptoN : ∀ m, m ≤ 60 → OneUptoN m := by
 intro m
 induction m with
 | zero =>
  intro _ ts n d A c S w hn hle h0 h6 hl
  have : ts = [] := List.eq_nil_of_length_eq_zero (by omega)
  subst this
  obtain rfl : n = 0 := by simpa using hn
  exact one_nilN A c d h6 w
 | succ m ih =>
  intro hm ts n d A c S w hn hle h0 h6 hl
  cases ts with
  | nil =>
   obtain rfl : n = 0 := by simpa using hn
   exact one_nilN A c d h6 w
  | cons t ts =>
   by_cases h4 : (t.kind.toNat : Int) % 6 = 4
   ·exact one_listN m (ih (by omega)) t ts n A c d S w hn hl hle hm h0 h6 h4
   ·by_cases h5 : (t.kind.toNat : Int) % 6 = 5
    ·exact one_objN m (ih (by omega)) t ts n A c d S w hn hl hle hm h0 h6 h5
    ·subst hn
     exact one_flatN t ts A c d h6 S w hl (by omega) h4 h5
def BuildIsN (ts : List Tk) (w : World) (e : Ending) (w' : World) : Prop := ∃ u x, e = .returned u ∧ SVd 0 x ∧ x.size ≤ 241 ∧ NumT ts x ∧ x.kind = kindT ts ∧ VAt w' (fun q => w.heap.size ≤ q) u x ∧ Ext w w'
theorem build_okN (ts : List Tk) (v : Value) (S : BS) (w : World) (hl : Sl ETok w S v ts) : Calls Tryz.prog 13 #[v] w (BuildIsN ts w) := by
 obtain ⟨A, c, rfl, hlc, hcm⟩ := hl.shape
 obtain ⟨m, hm⟩ : ∃ m, m = min ts.length 60 := ⟨_, rfl⟩
 have hmn : m ≤ ts.length := by omega
 have hm60 : m ≤ 60 := by omega
 have hmin : ∀ w, (Builtin.min_ #[3, 3] 3 #[.int .i64 (ts.length : Int), .int .i64 60]).run Tryz.prog w = .ok (.int .i64 (m : Int)) w := fun w => by
  rw [run_min_int2]
  have : ((m : Nat) : Int) = if (60 : Int) < (ts.length : Int) then (60 : Int) else (ts.length : Int) := by split <;> omega
  rw [this]
 obtain ⟨r1, f1⟩ := front_fact (P := Tryz.prog) ETok.ok ty_tok hl (b := (m : Int)) rfl hmn
 have hE0 : Ext w (w.alloc (.cells #[.int .u8 0, .int .i64 0, .string ⟨#[]⟩, .slice none 0 0, .slice none 0 0] TVAL)) := (Keep.refl _ _).alloc _
 have hb : Blk (w.alloc (.cells #[.int .u8 0, .int .i64 0, .string ⟨#[]⟩, .slice none 0 0, .slice none 0 0] TVAL)) w.heap.size TVAL #[.int .u8 0, .int .i64 0, .string ⟨#[]⟩, .slice none 0 0, .slice none 0 0] := Blk.new _ _ _
 have HC := hid (fun w1 (h : Ext w w1) => one_uptoN 60 (Nat.le_refl _) (ts.take m) m 0 A c S w1 (by rw [List.length_take]; omega) hm60 (by omega) (by omega) (f1.ext ETok.ok h))
 have HM := hid (show (ts.take m).length ≤ 60 from by rw [List.length_take]; omega)
 have HTM := hid (show (∀ t ∈ ts.take m, t ∈ ts) ∧ kindT (ts.take m) = kindT ts from ⟨fun t ht => List.mem_of_mem_take ht, by
  cases ts with
  | nil => simp
  | cons t ts =>
   obtain ⟨q, rfl⟩ : ∃ q, m = q + 1 := ⟨m - 1, by simp at hm; omega⟩
   rfl⟩)
 generalize ts.take m = tm at *
 have HE0 := hid hE0
 have HB := hid hb
 clear hl f1 hE0 hb hm
 go_enter Tryz.func13, Tryz.ntmps13
 go_wp2_with fail
 generalize w.alloc (.cells #[.int .u8 0, .int .i64 0, .string ⟨#[]⟩, .slice none 0 0, .slice none 0 0] TVAL) = w1 at *
 refine (HC.out w1 HE0.out).mono ?_
 rintro e w5 ⟨u5, x, n5, rfl, hn5, _, hsz5, hsv5, hkd5, hva5, hE5⟩
 have HKD5 := hid hkd5
 clear hkd5
 obtain ⟨lv5, ov5, rfl, hl5, ho5⟩ := hva5
 obtain ⟨A5, c5, rfl, _⟩ := hl5.shape
 obtain ⟨A6, c6, rfl, _⟩ := ho5.shape
 have hb1 := HB.out.keep hE5 id
 have hw : w.heap.size < w1.heap.size := HB.out.lt
 have hat : VAt w5 (fun q => w1.heap.size ≤ q) (.agg #[U8 x.kind, .int .i64 x.n, .string x.s, .slice A5 x.l.length c5, .slice A6 x.o.length c6]) x := ⟨_, _, rfl, hl5, ho5⟩
 have hk5 := set5_keep w5 w.heap.size 0 (U8 x.kind) (.int .i64 x.n) (.string x.s) (.slice A5 x.l.length c5) (.slice A6 x.o.length c6)
 have hbr := set5_to hb1 rfl (U8 x.kind) (.int .i64 x.n) (.string x.s) (.slice A5 x.l.length c5) (.slice A6 x.o.length c6)
 obtain ⟨t0, t1, t2, t3, t4⟩ := blk5 (hbr.alloc (.cells #[U8 x.kind, .int .i64 x.n, .string x.s, .slice A5 x.l.length c5, .slice A6 x.o.length c6] TVAL))
 have HT := hid (And.intro t0 (And.intro t1 (And.intro t2 (And.intro t3 t4))))
 have HR := hid (show BuildIsN ts w (.returned (.agg #[U8 x.kind, .int .i64 x.n, .string x.s, .slice A5 x.l.length c5, .slice A6 x.o.length c6])) ((set5 w5 w.heap.size 0 (U8 x.kind) (.int .i64 x.n) (.string x.s) (.slice A5 x.l.length c5) (.slice A6 x.o.length c6)).alloc (.cells #[U8 x.kind, .int .i64 x.n, .string x.s, .slice A5 x.l.length c5, .slice A6 x.o.length c6] TVAL)) from
  ⟨_, x, rfl, hsv5.1, by have := HM.out; omega, hsv5.2.sub HTM.out.1, HKD5.out.trans HTM.out.2, ((hat.keep hk5 fun q hq e => by omega).more fun q _ h => by omega).ext ((Keep.refl _ _).alloc _), ((HE0.out.ext hE5).trans hk5 fun q hq e => by omega).alloc _⟩)
 obtain ⟨q0, q1, q2, q3, q4⟩ := blk5 hb1
 obtain ⟨f0, f1, f2, f3, f4⟩ := sqf5 hb1
 have hw5 : w.heap.size < w5.heap.size := hb1.lt
 clear t0 t1 t2 t3 t4 hat hk5 hbr hb1 hE5 hl5 ho5 hsv5 HC
 go_wp2
 obtain ⟨t0, t1, t2, t3, t4⟩ := HT.out
 refine bodyPost_ret (v := .agg #[U8 x.kind, .int .i64 x.n, .string x.s, .slice A5 x.l.length c5, .slice A6 x.o.length c6]) (by simp [results, Tryz.results13, go_sem, t0, t1, t2, t3, t4]) rfl HR.out
end Go.Proofs.YtihaliffcobacaaGreatDoor
