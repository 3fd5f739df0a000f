/- The law's 'one' and 'Build', by contract: a sound value, in new memory. -/
import Derived.Test.YtjdpljjbgggpiaaDoorLawOneO
set_option linter.unusedSimpArgs false
set_option linter.unusedVariables false
namespace Go.Proofs.YtjdpljjbgggpiaaDoor
open Go.RowKit
set_option linter.unusedVariables false

theorem one_upto : ∀ m, m ≤ 60 → OneUpto m := by
  intro m
  induction m with
  | zero =>
    intro _ ts n d A c S w hn hle h0 h6 hl
    have : ts = [] := List.eq_nil_of_length_eq_zero (by omega)
    subst this
    obtain rfl : n = 0 := by simpa using hn
    exact one_nil A c d w
  | succ m ih =>
    intro hm ts n d A c S w hn hle h0 h6 hl
    cases ts with
    | nil =>
      obtain rfl : n = 0 := by simpa using hn
      exact one_nil A c d w
    | cons t ts =>
      by_cases h4 : (t.kind.toNat : Int) % 6 = 4
      · exact one_list m (ih (by omega)) t ts n A c d S w hn hl hle hm h0 h6 h4
      · by_cases h5 : (t.kind.toNat : Int) % 6 = 5
        · exact one_obj m (ih (by omega)) t ts n A c d S w hn hl hle hm h0 h6 h5
        · subst hn
          exact one_flat t ts A c d S w hl (by omega) h4 h5

/-- What 'Build' hands back. -/
def BuildIs (w : World) (e : Ending) (w' : World) : Prop := ∃ u x, e = .returned u ∧ SV x ∧ x.size ≤ 241 ∧ VAt w' (fun q => w.heap.size ≤ q) u x ∧ Ext w w'

set_option maxHeartbeats 3200000 in
theorem build_ok (ts : List Tk) (v : Value) (S : BS) (w : World) (hl : Sl ETok w S v ts) : Calls Tryd.prog 12 #[v] w (BuildIs w) := by
  obtain ⟨A, c, rfl, hlc, hcm⟩ := hl.shape
  obtain ⟨m, hm⟩ : ∃ m, m = min ts.length 60 := ⟨_, rfl⟩
  have hmn : m ≤ ts.length := by omega
  have hm60 : m ≤ 60 := by omega
  have hmin : ∀ w, (Builtin.min_ #[3, 3] 3 #[.int .i64 (ts.length : Int), .int .i64 60]).run Tryd.prog w = .ok (.int .i64 (m : Int)) w := fun w => by
    rw [run_min_int2]
    have : ((m : Nat) : Int) = if (60 : Int) < (ts.length : Int) then (60 : Int) else (ts.length : Int) := by split <;> omega
    rw [this]
  obtain ⟨r1, f1⟩ := front_fact (P := Tryd.prog) ETok.ok ty_tok hl (b := (m : Int)) rfl hmn
  have hE0 : Ext w (w.alloc (.cells #[.int .u8 0, .int .i64 0, .string ⟨#[]⟩, .slice none 0 0, .slice none 0 0] TVAL)) := (Keep.refl _ _).alloc _
  have hb : Blk (w.alloc (.cells #[.int .u8 0, .int .i64 0, .string ⟨#[]⟩, .slice none 0 0, .slice none 0 0] TVAL)) w.heap.size TVAL #[.int .u8 0, .int .i64 0, .string ⟨#[]⟩, .slice none 0 0, .slice none 0 0] := Blk.new _ _ _
  have HC := hid (fun w1 (h : Ext w w1) => one_upto 60 (Nat.le_refl _) (ts.take m) m 0 A c S w1 (by rw [List.length_take]; omega) hm60 (by omega) (by omega) (f1.ext ETok.ok h))
  have HM := hid (show (ts.take m).length ≤ 60 from by rw [List.length_take]; omega)
  generalize ts.take m = tm at *
  have HE0 := hid hE0
  have HB := hid hb
  clear hl f1 hE0 hb hm
  go_enter Tryd.func12, Tryd.ntmps12
  go_wp2_with fail
  generalize w.alloc (.cells #[.int .u8 0, .int .i64 0, .string ⟨#[]⟩, .slice none 0 0, .slice none 0 0] TVAL) = w1 at *
  refine (HC.out w1 HE0.out).mono ?_
  rintro e w5 ⟨u5, x, n5, rfl, hn5, _, hsz5, hsv5, hva5, hE5⟩
  obtain ⟨lv5, ov5, rfl, hl5, ho5⟩ := hva5
  obtain ⟨A5, c5, rfl, _⟩ := hl5.shape
  obtain ⟨A6, c6, rfl, _⟩ := ho5.shape
  have hb1 := HB.out.keep hE5 id
  have hw : w.heap.size < w1.heap.size := HB.out.lt
  have hat : VAt w5 (fun q => w1.heap.size ≤ q) (.agg #[U8 x.kind, .int .i64 x.n, .string x.s, .slice A5 x.l.length c5, .slice A6 x.o.length c6]) x := ⟨_, _, rfl, hl5, ho5⟩
  have hk5 := set5_keep w5 w.heap.size 0 (U8 x.kind) (.int .i64 x.n) (.string x.s) (.slice A5 x.l.length c5) (.slice A6 x.o.length c6)
  have hbr := set5_to hb1 rfl (U8 x.kind) (.int .i64 x.n) (.string x.s) (.slice A5 x.l.length c5) (.slice A6 x.o.length c6)
  obtain ⟨t0, t1, t2, t3, t4⟩ := blk5 (hbr.alloc (.cells #[U8 x.kind, .int .i64 x.n, .string x.s, .slice A5 x.l.length c5, .slice A6 x.o.length c6] TVAL))
  have HT := hid (And.intro t0 (And.intro t1 (And.intro t2 (And.intro t3 t4))))
  have HR := hid (show BuildIs w (.returned (.agg #[U8 x.kind, .int .i64 x.n, .string x.s, .slice A5 x.l.length c5, .slice A6 x.o.length c6])) ((set5 w5 w.heap.size 0 (U8 x.kind) (.int .i64 x.n) (.string x.s) (.slice A5 x.l.length c5) (.slice A6 x.o.length c6)).alloc (.cells #[U8 x.kind, .int .i64 x.n, .string x.s, .slice A5 x.l.length c5, .slice A6 x.o.length c6] TVAL)) from
    ⟨_, x, rfl, hsv5, by have := HM.out; omega, ((hat.keep hk5 fun q hq e => by omega).more fun q _ h => by omega).ext ((Keep.refl _ _).alloc _), ((HE0.out.ext hE5).trans hk5 fun q hq e => by omega).alloc _⟩)
  obtain ⟨q0, q1, q2, q3, q4⟩ := blk5 hb1
  have f0 := hb1.frozen 0
  have f1 := hb1.frozen 1
  have f2 := hb1.frozen 2
  have f3 := hb1.frozen 3
  have f4 := hb1.frozen 4
  have hw5 : w.heap.size < w5.heap.size := hb1.lt
  clear t0 t1 t2 t3 t4 hat hk5 hbr hb1 hE5 hl5 ho5 hsv5 HC
  go_wp2
  obtain ⟨t0, t1, t2, t3, t4⟩ := HT.out
  refine bodyPost_ret (v := .agg #[U8 x.kind, .int .i64 x.n, .string x.s, .slice A5 x.l.length c5, .slice A6 x.o.length c6]) (by simp [results, Tryd.results12, go_sem, t0, t1, t2, t3, t4]) rfl HR.out
end Go.Proofs.YtjdpljjbgggpiaaDoor
