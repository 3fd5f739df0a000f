/- Package disk: Append, by contract. -/
import Derived.Test.YtikophoopapngaaDiskD
import Derived.Test.YtikophoopapngaaConcat
import Derived.Test.YtikophoopapngaaGrowMTail
set_option linter.unusedSimpArgs false
set_option linter.unusedVariables false
namespace Go.Proofs.Ytikophoopapngaa
open Go.RowKit Go.Maps
set_option linter.unusedVariables false

theorem eq_of_pw {α β : Type} {p : α → β} : ∀ {l : List α}, l.Pairwise (fun a b => p a ≠ p b) → ∀ {x y : α}, x ∈ l → y ∈ l → p x = p y → x = y
  | [], _, _, _, hx, _, _ => by cases hx
  | a :: l, hp, x, y, hx, hy, e => by
    obtain ⟨h1, h2⟩ := List.pairwise_cons.1 hp
    rcases List.mem_cons.1 hx with rfl | hx1
    · rcases List.mem_cons.1 hy with rfl | hy1
      · rfl
      · exact absurd e (h1 y hy1)
    · rcases List.mem_cons.1 hy with rfl | hy1
      · exact absurd e.symm (h1 x hx1)
      · exact eq_of_pw h2 hx1 hy1 e
/-- The disk's blocks behind a call: those of before, and new ones. -/
def moreB (B : BS) (w w' : World) : BS := fun k => B k ∨ (w.heap.size ≤ k ∧ k < w'.heap.size)
theorem wpList_store_files {w : World} {ops : Array Oper} {rest : List Oper} {o : Oper} {a : Act} {Q : Exit → Act → World → Prop}
    (hg : o.guard = none) (mo x v : Operand) (hop : o.op = Op.mapUpdate TMAP mo x v) (m : Nat) (fs : List DF) (hm : a.eval mo = .map (some m)) (h : MapIs w m fs) (name : ByteArray) (hx : a.eval x = .string name)
    (hn : name.size ≤ maxLen) (hl : fs.length < maxLen) (hno : ∀ f ∈ fs, f.c.name ≠ name.data.toList) (f : DF) (hf : f.c.name = name.data.toList) (hv : a.eval v = .pointer (some ⟨f.blk, 0, none⟩))
    (hK : ∀ w', MapIs w' m (insF f fs) → Keep (· = m) w w' → wpList Try.prog ops Q rest (a.put o.dst undef) w') :
    wpList Try.prog ops Q (o :: rest) a w := by
  refine wpList_plain hg fun K' hK' => ?_
  obtain ⟨w', hrun, r1, r2⟩ := h.store hn hl hno f hf
  unfold Oper.wp
  simp [execOp, hop, hm, hx, hv, hrun, Result.andThen]
  exact hK' _ _ (hK w' r1 r2)

def AppIs (w : World) (B : BS) (d : Nat) (cs : List DC) (s : DSt) (name b : List UInt8) (e : Ending) (w' : World) : Prop :=
  e = .returned (.int .u16 (appR cs s name b).1) ∧ DiskIs w' (moreB B w w') d (appR cs s name b).2 { s with left := leftC s.left } ∧ Keep B w w'

/-- What 'call' leaves, of the disk. -/
theorem CallIs.disk {w w' : World} {B : BS} {d m : Nat} {fs : List DF} {s : DSt} {e : Ending} (h : CallIs w d s.left e w') (hd : DiskAt w B d m fs s) :
    e = .returned (.bool (goesC s.left)) ∧ DiskAt w' B d m fs { s with left := leftC s.left } ∧ Keep (· = d) w w' := by
  obtain ⟨h1, h2⟩ := h
  refine ⟨h1, ?_⟩
  split at h2
  · subst h2
    exact ⟨hd.setLeft _, (Keep.refl _ _).set1 3 _⟩
  · rename_i hn
    subst h2
    have : leftC s.left = s.left := by unfold leftC; rw [if_neg hn]
    rw [this]
    exact ⟨hd, Keep.refl _ _⟩
theorem disk_call' (w : World) (B : BS) (d m : Nat) (fs : List DF) (s : DSt) (h : DiskAt w B d m fs s) (hl : -1 ≤ s.left ∧ s.left ≤ 9223372036854775807) :
    Calls Try.prog 27 #[.pointer (some ⟨d, 0, none⟩)] w fun e w' => e = .returned (.bool (goesC s.left)) ∧ DiskAt w' B d m fs { s with left := leftC s.left } ∧ Keep (· = d) w w' :=
  (disk_call w d s.left h.cells.2.2.2 (h.blk.frozen 3) hl).mono fun e w' hc => hc.disk h

/-- A row of bytes is stored behind a file's name: the disk behind it. -/
theorem DiskAt.setBytes {w w' : World} {B : BS} {d m : Nat} {fs : List DF} {s : DSt} {name : List UInt8} (h : DiskAt w B d m fs s) (hE : Ext w w') {f : DF} (hf : findF fs name = some f) {g : DC → DC} (hg : ∀ c, (g c).name = c.name) {v : Value}
    (hv : BytesS w' (fun k => w.heap.size ≤ k) v (g f.c).b) (hgl : (g f.c).l = f.c.l) (hle : f.c.l ≤ (g f.c).b.length) :
    DiskAt (w'.setCell ⟨f.blk, 0, none⟩ v) (moreB B w w') d m (updF g fs name) s := by
  obtain ⟨hmem, hname⟩ := findF_some hf
  have hlt := (h.files f hmem).2.lt
  have hk : Keep (· = f.blk) w' (w'.setCell ⟨f.blk, 0, none⟩ v) := (Keep.refl _ _).set1 0 _
  have hkw : Keep (· = f.blk) w (w'.setCell ⟨f.blk, 0, none⟩ v) := ((Keep.refl (· = f.blk) w).ext hE).trans hk fun _ _ e => e
  have hnd := h.ned hmem
  have hws : (w'.setCell ⟨f.blk, 0, none⟩ v).heap.size = w'.heap.size := by simp [World.setCell]
  refine ⟨.inl h.own, .inl h.ownm, h.blk.keep hkw (fun e => hnd.1 e.symm), (h.map.keep hkw (fun e => hnd.2 e.symm)).upd hg name, ?_, apart_updF h.apart⟩
  intro x hx
  obtain ⟨y, hy, eb, ex⟩ := mem_updF hx
  obtain ⟨hB, hfy⟩ := h.files y hy
  refine ⟨.inl (by rw [eb]; exact hB), ?_⟩
  by_cases hyn : y.c.name = name
  · have hyf : y = f := eq_of_pw h.map.names hy hmem (hyn.trans hname.symm)
    subst hyf
    rw [if_pos hyn] at ex
    subst ex
    obtain ⟨A, k, _, _, _, _, _, _, hblk⟩ := hfy.cells
    refine ⟨v, ?_, ?_, by show (g y.c).l ≤ _; rw [hgl]; exact hle⟩
    · have := (hblk.keep hE id).set_ 0 v
      show Blk _ y.blk TFIL #[v, .int .i64 ((g y.c).l : Int)]
      rw [hgl]
      simpa using this
    · refine (hv.keep EU8.ok hk fun k h1 e => by omega).more EU8.ok fun k hk h1 => ⟨.inr ⟨h1, by rw [← hws]; exact hk⟩, ?_, ?_, ?_⟩
      · intro e; have := h.blk.lt; omega
      · intro e; have := h.map.lt; omega
      · intro z hz e
        have : ∀ x ∈ updF g fs name, x.blk < w.heap.size := (blk_updF (p := fun b => b < w.heap.size)).2 fun x hx => (h.files x hx).2.lt
        have := this z hz
        omega
  · rw [if_neg hyn] at ex
    subst ex
    have hne : x.blk ≠ f.blk := by
      intro e
      exact hyn ((eq_of_pw (p := DF.blk) h.apart hy hmem e).symm ▸ hname)
    refine (hfy.keep hkw hne fun k hk e => hk.2.2.2 f hmem e).more fun k hk h1 => ⟨.inl h1.1, h1.2.1, h1.2.2.1, ?_⟩
    exact (blk_updF (p := fun b => ¬ k = b)).2 h1.2.2.2

theorem insF_pw {R : DF → DF → Prop} {x : DF} : ∀ {fs : List DF}, fs.Pairwise R → (∀ f ∈ fs, R x f ∧ R f x) → (insF x fs).Pairwise R
  | [], _, _ => List.pairwise_singleton _ _
  | y :: r, hp, hx => by
    obtain ⟨h1, h2⟩ := List.pairwise_cons.1 hp
    rw [insF]
    split
    · exact List.pairwise_cons.2 ⟨fun z hz => (hx z hz).1, hp⟩
    · refine List.pairwise_cons.2 ⟨fun z hz => ?_, insF_pw h2 fun f hf => hx f (by simp [hf])⟩
      rcases mem_insF.1 hz with rfl | hz
      · exact (hx y (by simp)).2
      · exact h1 z hz
/-- A file more, in a new block. -/
theorem DiskAt.addFile {w w2 : World} {B : BS} {d m : Nat} {fs : List DF} {s : DSt} {x : DF} (h : DiskAt w B d m fs s) (hm : MapIs w2 m (insF x fs)) (hkw : Keep (· = m) w w2) (hb : w.heap.size ≤ x.blk)
    (hx : FileAt w2 (fun k => w.heap.size ≤ k ∧ k ≠ x.blk) x.blk x.c) : DiskAt w2 (moreB B w w2) d m (insF x fs) s := by
  have hlt := hx.lt
  have hfl : ∀ f ∈ fs, f.blk < w.heap.size := fun f hf => (h.files f hf).2.lt
  have hdl := h.blk.lt
  have hml := h.map.lt
  refine ⟨.inl h.own, .inl h.ownm, h.blk.keep hkw h.ne, hm, ?_, ?_⟩
  · intro f hf
    rcases mem_insF.1 hf with rfl | hf
    · refine ⟨.inr ⟨hb, hlt⟩, hx.more fun k hk h1 => ⟨.inr ⟨h1.1, hk⟩, by omega, by omega, fun g hg e => ?_⟩⟩
      rcases mem_insF.1 hg with rfl | hg
      · exact h1.2 e
      · have := hfl g hg; omega
    · obtain ⟨h1, h2⟩ := h.files f hf
      refine ⟨.inl h1, ((h2.more (S' := fun k => (B k ∧ k ≠ d ∧ k ≠ m ∧ ∀ g ∈ fs, k ≠ g.blk) ∧ k < w.heap.size) fun k hk h3 => ⟨h3, hk⟩).keep hkw (h.ned hf).2 fun k hk => hk.1.2.2.1).more fun k hk h3 => ⟨.inl h3.1.1, h3.1.2.1, h3.1.2.2.1, fun g hg e => ?_⟩⟩
      rcases mem_insF.1 hg with rfl | hg
      · have := h3.2; omega
      · exact h3.1.2.2.2 g hg e
  · exact insF_pw h.apart fun f hf => ⟨fun e => by have := hfl f hf; omega, fun e => by have := hfl f hf; omega⟩
theorem MapIs.same {w : World} {m : Nat} {fs gs : List DF} (h : MapIs w m fs) (e : fs.map ent = gs.map ent) : MapIs w m gs := by
  have hl : fs.length = gs.length := by have := congrArg List.length e; simpa using this
  unfold MapIs at h ⊢
  rw [← hl, ← e]; exact h
theorem ins_ent {x y : DF} (e : ent x = ent y) (fs : List DF) : (insF x fs).map ent = (insF y fs).map ent := by rw [← insert_ent, ← insert_ent, e]
theorem mem_usedC {c : DC} : ∀ {cs : List DC}, c ∈ cs → c.b.length ≤ usedC cs
  | x :: r, h => by
    rw [usedC_cons]
    rcases List.mem_cons.1 h with rfl | h
    · omega
    · have := mem_usedC h; omega
/-- A row of bytes does not lie in a block that holds other things. -/
theorem bytes_apart {w : World} {S : BS} {v : Value} {l : List UInt8} {g : Nat} {t : TypeId} {cs : Array Value} (h : BytesS w S v l) (hb : Blk w g t cs) (hc : ∀ (j : Nat) (x : UInt8), cs[j]? ≠ some (U8 x)) : BytesS w (fun k => S k ∧ k ≠ g) v l := by
  obtain ⟨ks, ⟨h0, A, c, rfl, h1, h2, h3⟩, h4⟩ := h
  have hks := cells_U8 h4
  refine ⟨ks, ⟨h0, A, c, rfl, h1, h2, fun hn => ?_⟩, by rw [hks]; exact U8_cells l⟩
  obtain ⟨b, off, e, hs, hlt, hcell⟩ := h3 hn
  refine ⟨b, off, e, ⟨hs, fun eb => ?_⟩, hlt, hcell⟩
  subst eb
  obtain ⟨x, l', rfl⟩ : ∃ x l', l = x :: l' := by
    cases l with
    | nil => simp at hn
    | cons x l' => exact ⟨x, l', rfl⟩
  have := hcell 0 (U8 x) (by rw [hks]; rfl)
  rw [Nat.add_zero, hb.cell] at this
  exact hc _ _ this
theorem bytes_notmap {w : World} {S : BS} {v : Value} {l : List UInt8} {m : Nat} {fs : List DF} (h : BytesS w S v l) (hb : MapIs w m fs) : BytesS w (fun k => S k ∧ k ≠ m) v l := by
  obtain ⟨ks, ⟨h0, A, c, rfl, h1, h2, h3⟩, h4⟩ := h
  have hks := cells_U8 h4
  refine ⟨ks, ⟨h0, A, c, rfl, h1, h2, fun hn => ?_⟩, by rw [hks]; exact U8_cells l⟩
  obtain ⟨b, off, e, hs, hlt, hcell⟩ := h3 hn
  refine ⟨b, off, e, ⟨hs, fun eb => ?_⟩, hlt, hcell⟩
  subst eb
  obtain ⟨x, l', rfl⟩ : ∃ x l', l = x :: l' := by
    cases l with
    | nil => simp at hn
    | cons x l' => exact ⟨x, l', rfl⟩
  have := hcell 0 (U8 x) (by rw [hks]; rfl)
  obtain ⟨es, clock, hm, _⟩ := hb
  simp [World.cell?, hm] at this
theorem eql_pfi (w : World) (p : Option Addr) : (Go.binOp .eql 62 (.pointer p) (.pointer none)).run Try.prog w = .ok (.bool p.isNone) w := run_eql_pointer_nil w _ p (by kernel_rfl)
theorem eql_pdsk (w : World) (p : Option Addr) : (Go.binOp .eql 25 (.pointer p) (.pointer none)).run Try.prog w = .ok (.bool p.isNone) w := run_eql_pointer_nil w _ p (by kernel_rfl)
theorem dsk_noU8 (m : Nat) (a : Int) (b : Bool) (c : Int) (j : Nat) (x : UInt8) : (#[Value.map (some m), .int .i64 a, .bool b, .int .i64 c] : Array Value)[j]? ≠ some (U8 x) := by
  rcases j with _ | _ | _ | _ | j <;> simp [U8]

/-- Append's answer, by the cases. -/
theorem appR_full {cs : List DC} {s : DSt} {name b : List UInt8} (h : fullC cs s b.length = true) : appR cs s name b = (130, cs) := by rw [appR, if_pos h]
theorem appR_has {cs : List DC} {s : DSt} {name b : List UInt8} (h : fullC cs s b.length = false) (h2 : hasC cs name = true) : appR cs s name b = (0, updC (moreC b) cs name) := by rw [appR, if_neg (by simp [h]), if_pos h2]
theorem appR_new {cs : List DC} {s : DSt} {name b : List UInt8} (h : fullC cs s b.length = false) (h2 : hasC cs name = false) (h3 : mayC cs.length name = true) : appR cs s name b = (0, insC ⟨name, b, 0⟩ cs) := by rw [appR, if_neg (by simp [h]), if_neg (by simp [h2]), if_pos h3]
theorem appR_no {cs : List DC} {s : DSt} {name b : List UInt8} (h : fullC cs s b.length = false) (h2 : hasC cs name = false) (h3 : mayC cs.length name = false) : appR cs s name b = (130, cs) := by rw [appR, if_neg (by simp [h]), if_neg (by simp [h2]), if_neg (by simp [h3])]
/-- What a disk has stays in bounds. -/
theorem DOk.left' {cs : List DC} {s : DSt} (h : DOk cs s) : DOk cs { s with left := leftC s.left } := ⟨h.room, h.used, h.many, h.names, leftC_ok h.left⟩
theorem app_ok {cs : List DC} {s : DSt} {name b : List UInt8} (h : DOk cs s) (hp : cs.Pairwise fun x y => x.name ≠ y.name) : DOk (appR cs s name b).2 { s with left := leftC s.left } := by
  by_cases h1 : fullC cs s b.length = true
  · rw [appR_full h1]; exact h.left'
  · have h1 : fullC cs s b.length = false := by simpa using h1
    have hroom : usedC cs + b.length ≤ s.room := by
      unfold fullC at h1
      simp only [Bool.or_eq_false_iff, decide_eq_false_iff_not] at h1
      have := h1.2; omega
    by_cases h2 : hasC cs name = true
    · rw [appR_has h1 h2]
      obtain ⟨c, hc, hn⟩ := List.any_eq_true.1 h2
      have hn : c.name = name := by simpa using hn
      have hu := usedC_upd (moreC b) hp hc
      rw [hn] at hu
      have e : (moreC b c).b.length = c.b.length + b.length := by show (c.b ++ b).length = _; simp
      refine ⟨h.room, by show usedC (updC _ _ _) ≤ s.room; omega, by show (updC (moreC b) cs name).length ≤ 64; unfold updC; rw [List.length_map]; exact h.many, fun x hx => ?_, leftC_ok h.left⟩
      obtain ⟨y, hy, e⟩ := List.mem_map.1 hx
      have := h.names y hy
      subst e
      split
      · exact this
      · exact this
    · have h2 : hasC cs name = false := by simpa using h2
      by_cases h3 : mayC cs.length name = true
      · rw [appR_new h1 h2 h3]
        unfold mayC at h3
        simp only [Bool.and_eq_true, decide_eq_true_eq, Bool.not_eq_true', List.isEmpty_eq_false_iff] at h3
        refine ⟨h.room, by show usedC (insC _ _) ≤ s.room; rw [usedC_ins]; exact hroom, by show (insC _ _).length ≤ 64; rw [insC_length]; omega, fun x hx => ?_, leftC_ok h.left⟩
        rcases mem_insC.1 hx with rfl | hx
        · exact ⟨List.length_pos_iff.2 h3.1.2, h3.2⟩
        · exact h.names x hx
      · rw [appR_no h1 h2 (by simpa using h3)]; exact h.left'
theorem DiskAt.pw {w : World} {B : BS} {d m : Nat} {fs : List DF} {s : DSt} (h : DiskAt w B d m fs s) : (fs.map DF.c).Pairwise fun x y => x.name ≠ y.name := List.pairwise_map.2 h.map.names
end Go.Proofs.Ytikophoopapngaa
