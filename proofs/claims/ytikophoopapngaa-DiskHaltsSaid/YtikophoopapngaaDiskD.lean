/- Package disk: fresh; what Append makes of files, in plain Lean. -/
import Derived.Test.YtikophoopapngaaDiskC
set_option linter.unusedSimpArgs false
set_option linter.unusedVariables false
namespace Go.Proofs.Ytikophoopapngaa
open Go.RowKit Go.Maps
set_option linter.unusedVariables false

def mayC (n : Nat) (name : List UInt8) : Bool := decide (n < 64) && !name.isEmpty && decide (name.length ≤ 30)
set_option maxRecDepth 20000 in
set_option maxHeartbeats 1600000 in
theorem disk_fresh (w : World) (B : BS) (d m : Nat) (fs : List DF) (s : DSt) (name : ByteArray) (h : DiskAt w B d m fs s) (hz : name.size ≤ 9223372036854775807) :
    Calls Try.prog 28 #[.pointer (some ⟨d, 0, none⟩), .string name] w fun e w' => e = .returned (.bool (mayC fs.length name.data.toList)) ∧ w = w' := by
  obtain ⟨c0, _, _, _⟩ := h.cells
  have hlen := World.ownsMap.len h.map TM 3
  have e0 : Maps.size (DataW.map (fs.map ent)) = fs.length := by simp [Maps.size]
  rw [e0] at hlen
  have hsz : name.data.toList.length = name.size := Array.length_toList
  have hle : name = ⟨#[]⟩ ∨ 0 < name.size := by
    rcases Nat.eq_zero_or_pos name.size with h0 | h0
    · left
      cases name with
      | mk a => have : a.size = 0 := h0; rw [Array.eq_empty_of_size_eq_zero this]
    · exact .inr h0
  obtain ⟨r, hr⟩ : ∃ r, mayC fs.length name.data.toList = r := ⟨_, rfl⟩
  rw [hr]
  unfold mayC at hr
  clear h e0
  generalize fs.length = n at *
  by_cases h1 : n < 64
  · have h1X : decide ((n : Int) < 64) = true := by simp; omega
    rcases hle with rfl | hle
    · obtain rfl : r = false := by rw [← hr]; simp
      clear h1 hsz hz hr
      go_enter Try.func28, Try.ntmps28
      go_wp2
      go_ret
      exact ⟨rfl, rfl⟩
    · have hne : ¬ name.toList = [] := by
        intro e
        rw [ByteArray.toList_eq] at e
        rw [e] at hsz
        simp at hsz
        omega
      have hemp : name.data.toList.isEmpty = false := by
        rw [ByteArray.toList_eq] at hne
        simpa using hne
      by_cases h3 : name.size ≤ 30
      · have h3X : (name.size : Int) ≤ 30 := by omega
        obtain rfl : r = true := by rw [← hr, hsz, hemp]; simp [h1, h3]
        have HX := hid h3X
        clear h1 h3 hsz hz hle hr hemp
        go_enter Try.func28, Try.ntmps28
        go_wp2
        go_ret
        exact ⟨by have := HX.out; first | rfl | (simp; omega), rfl⟩
      · have h3X : ¬ (name.size : Int) ≤ 30 := by omega
        obtain rfl : r = false := by rw [← hr, hsz]; simp [h3]
        clear h1 h3 hsz hz hle hr hemp
        go_enter Try.func28, Try.ntmps28
        go_wp2
        go_ret
        exact ⟨by first | rfl | simp | (simp; omega), rfl⟩
  · have h1X : decide ((n : Int) < 64) = false := by simp; omega
    obtain rfl : r = false := by rw [← hr]; simp [h1]
    clear h1 hsz hz hle hr
    go_enter Try.func28, Try.ntmps28
    go_wp2
    go_ret
    exact ⟨rfl, rfl⟩

/-! ### What Append makes of files -/
def hasC (cs : List DC) (name : List UInt8) : Bool := cs.any fun c => c.name == name
def updC (g : DC → DC) (cs : List DC) (name : List UInt8) : List DC := cs.map fun c => if c.name = name then g c else c
def updF (g : DC → DC) (fs : List DF) (name : List UInt8) : List DF := fs.map fun f => if f.c.name = name then ⟨g f.c, f.blk⟩ else f
def insC (x : DC) : List DC → List DC
  | [] => [x]
  | y :: r => if bytesBefore x.name y.name then x :: y :: r else y :: insC x r
def fullC (cs : List DC) (s : DSt) (n : Nat) : Bool := !goesC s.left || s.full || decide ((s.room : Int) - usedC cs < n)
def moreC (b : List UInt8) (c : DC) : DC := { c with b := c.b ++ b }
/-- What Append answers; what files there are then. -/
def appR (cs : List DC) (s : DSt) (name b : List UInt8) : Int × List DC :=
  if fullC cs s b.length then (130, cs) else if hasC cs name then (0, updC (moreC b) cs name) else if mayC cs.length name then (0, insC ⟨name, b, 0⟩ cs) else (130, cs)

theorem updF_c (g : DC → DC) (fs : List DF) (name : List UInt8) : (updF g fs name).map DF.c = updC g (fs.map DF.c) name := by
  unfold updF updC
  rw [List.map_map, List.map_map]
  apply List.map_congr_left
  intro f _
  show DF.c (if f.c.name = name then ⟨g f.c, f.blk⟩ else f) = if f.c.name = name then g f.c else f.c
  split <;> rfl
theorem updF_blk (g : DC → DC) (fs : List DF) (name : List UInt8) : (updF g fs name).map DF.blk = fs.map DF.blk := by
  unfold updF
  rw [List.map_map]
  apply List.map_congr_left
  intro f _
  show DF.blk (if f.c.name = name then ⟨g f.c, f.blk⟩ else f) = f.blk
  split <;> rfl
theorem insF_c (x : DF) : ∀ fs : List DF, (insF x fs).map DF.c = insC x.c (fs.map DF.c)
  | [] => rfl
  | y :: r => by
    rw [insF, List.map_cons, insC]
    split
    · rfl
    · rw [List.map_cons, insF_c x r]
theorem hasC_map (fs : List DF) (n : List UInt8) : hasC (fs.map DF.c) n = (findF fs n).isSome := by
  unfold hasC findF
  rw [List.any_map, List.isSome_find?]
  rfl
theorem usedC_cons (c : DC) (cs : List DC) : usedC (c :: cs) = c.b.length + usedC cs := rfl
theorem usedC_ins (x : DC) : ∀ cs : List DC, usedC (insC x cs) = usedC cs + x.b.length
  | [] => by simp [insC, usedC]
  | y :: r => by
    rw [insC]
    split
    · rw [usedC_cons, usedC_cons]; omega
    · rw [usedC_cons, usedC_ins x r, usedC_cons]; omega
theorem insC_length (x : DC) : ∀ cs : List DC, (insC x cs).length = cs.length + 1
  | [] => rfl
  | y :: r => by
    rw [insC]
    split
    · rfl
    · rw [List.length_cons, insC_length x r, List.length_cons]
theorem mem_insC {x y : DC} : ∀ {cs : List DC}, y ∈ insC x cs ↔ y = x ∨ y ∈ cs
  | [] => by simp [insC]
  | z :: r => by
    rw [insC]
    split
    · simp
    · simp only [List.mem_cons, mem_insC (cs := r)]
      constructor
      · rintro (h | h | h) <;> simp [h]
      · rintro (h | h | h) <;> simp [h]
theorem updC_none (g : DC → DC) {cs : List DC} {n : List UInt8} (h : ∀ c ∈ cs, c.name ≠ n) : updC g cs n = cs := by
  unfold updC
  conv => rhs; rw [← List.map_id cs]
  exact List.map_congr_left fun c hc => by rw [if_neg (h c hc)]; rfl
theorem usedC_upd (g : DC → DC) : ∀ {cs : List DC}, cs.Pairwise (fun x y => x.name ≠ y.name) → ∀ {c : DC}, c ∈ cs → usedC (updC g cs c.name) + c.b.length = usedC cs + (g c).b.length
  | [], _, _, hc => by cases hc
  | x :: r, hp, c, hc => by
    obtain ⟨h1, h2⟩ := List.pairwise_cons.1 hp
    by_cases e : x.name = c.name
    · have hx : x = c := by
        rcases List.mem_cons.1 hc with rfl | h
        · rfl
        · exact absurd e (h1 c h)
      subst hx
      have : updC g (x :: r) x.name = g x :: r := by
        have := updC_none g (cs := r) (n := x.name) fun y hy => (h1 y hy).symm
        unfold updC at this ⊢
        rw [List.map_cons, if_pos rfl, this]
      rw [this, usedC_cons, usedC_cons]; omega
    · have hc' : c ∈ r := by
        rcases List.mem_cons.1 hc with rfl | h
        · exact absurd rfl e
        · exact h
      have ih := usedC_upd g h2 hc'
      have : updC g (x :: r) c.name = x :: updC g r c.name := by
        unfold updC
        rw [List.map_cons, if_neg e]
      rw [this, usedC_cons, usedC_cons]; omega

theorem ent_updF {g : DC → DC} (hg : ∀ c, (g c).name = c.name) (fs : List DF) (n : List UInt8) : (updF g fs n).map ent = fs.map ent := by
  unfold updF
  rw [List.map_map]
  apply List.map_congr_left
  intro f _
  show ent (if f.c.name = n then ⟨g f.c, f.blk⟩ else f) = ent f
  split
  · show (Lit.string (g f.c).name, _) = _
    rw [hg]; rfl
  · rfl
theorem MapIs.upd {w : World} {m : Nat} {fs : List DF} {g : DC → DC} (hg : ∀ c, (g c).name = c.name) (h : MapIs w m fs) (n : List UInt8) : MapIs w m (updF g fs n) := by
  unfold MapIs at h ⊢
  rw [ent_updF hg]
  have : (updF g fs n).length = fs.length := by unfold updF; simp
  rw [this]; exact h
theorem mem_updF {g : DC → DC} {fs : List DF} {n : List UInt8} {x : DF} (h : x ∈ updF g fs n) : ∃ f ∈ fs, x.blk = f.blk ∧ x = if f.c.name = n then ⟨g f.c, f.blk⟩ else f := by
  obtain ⟨f, hf, e⟩ := List.mem_map.1 h
  exact ⟨f, hf, by rw [← e]; split <;> rfl, e.symm⟩
theorem blk_updF {g : DC → DC} {fs : List DF} {n : List UInt8} {p : Nat → Prop} : (∀ x ∈ updF g fs n, p x.blk) ↔ ∀ x ∈ fs, p x.blk := by
  have := updF_blk g fs n
  constructor
  · intro h x hx
    have : x.blk ∈ (updF g fs n).map DF.blk := by rw [this]; exact List.mem_map_of_mem hx
    obtain ⟨y, hy, e⟩ := List.mem_map.1 this
    rw [← e]; exact h y hy
  · intro h x hx
    obtain ⟨f, hf, e, _⟩ := mem_updF hx
    rw [e]; exact h f hf
theorem apart_updF {g : DC → DC} {fs : List DF} {n : List UInt8} (h : fs.Pairwise fun f g => f.blk ≠ g.blk) : (updF g fs n).Pairwise fun f g => f.blk ≠ g.blk := by
  have h1 : (fs.map DF.blk).Pairwise (· ≠ ·) := List.pairwise_map.2 h
  rw [← updF_blk g fs n] at h1
  exact List.pairwise_map.1 h1
end Go.Proofs.Ytikophoopapngaa
