/- A disk in memory: what is known of it; what its map answers. -/
import Derived.Test.YtikophoopapngaaOwn
import Derived.Test.YtikophoopapngaaBytesClone
import Derived.Maps.RangeWalk
import Derived.StringKeys
set_option linter.unusedSimpArgs false
set_option linter.unusedVariables false
namespace Go.Proofs.Ytikophoopapngaa
open Go.RowKit Go.Maps
set_option linter.unusedVariables false

abbrev TMAP : TypeId := 53
abbrev TSTR : TypeId := 9
abbrev TPFI : TypeId := 62
abbrev TDSK : TypeId := 60
abbrev TFIL : TypeId := 65

/-- A file: its name's bytes, what it has, how many last. -/
structure DC where
  name : List UInt8
  b : List UInt8
  l : Nat
/-- A file, and the block in which it lies. -/
structure DF where
  c : DC
  blk : Nat

abbrev Dt := DataW Unit
/-- How an element of the map reads: by the number of the block. -/
def fileElem : Value → Option (Dt × List MemPlace)
  | .pointer (some ⟨b, 0, none⟩) => some (.lit (.int .i64 (b : Int)), [])
  | .pointer none => some (.lit (.int .i64 (-1)), [])
  | _ => none
theorem fileElem_mk (b : Nat) : fileElem (.pointer (some ⟨b, 0, none⟩)) = some (.lit (.int .i64 (b : Int)), []) := rfl
theorem fileElem_inv {v : Value} {y : Dt × List MemPlace} (h : fileElem v = some y) : ∃ p : Option Nat, v = .pointer (p.map fun b => ⟨b, 0, none⟩) ∧ y = (.lit (.int .i64 (match p with | some b => (b : Int) | none => -1)), []) := by
  unfold fileElem at h
  split at h
  · rename_i b; cases h; exact ⟨some b, rfl, rfl⟩
  · cases h; exact ⟨none, rfl, rfl⟩
  · cases h

def ent (f : DF) : Lit × Dt := (.string f.c.name, .lit (.int .i64 (f.blk : Int)))
theorem mapLaw : Keyed Try.prog TSTR := string_keyed Try.underlying9
theorem zeroPF (w : World) : (zeroValue TPFI).run Try.prog w = .ok (.pointer none) w := by kernel_rfl
abbrev TM := Try.underlying53

/-- Block m is a map of these files. -/
def MapIs (w : World) (m : Nat) (fs : List DF) : Prop := w.ownsMap (H := Unit) Try.prog TSTR fileElem m fs.length (.map (fs.map ent))
def findF (fs : List DF) (name : List UInt8) : Option DF := fs.find? fun f => f.c.name == name
/-- A file more, by its name. -/
def insF (x : DF) : List DF → List DF
  | [] => [x]
  | y :: r => if bytesBefore x.c.name y.c.name then x :: y :: r else y :: insF x r
def delF (fs : List DF) (name : List UInt8) : List DF := fs.filter fun f => !(f.c.name == name)

theorem insert_ent (x : DF) : ∀ fs : List DF, DataW.insert (ent x) (fs.map ent) = (insF x fs).map ent
  | [] => rfl
  | y :: r => by
    simp only [List.map_cons, DataW.insert, insF]
    show (if bytesBefore x.c.name y.c.name then _ else _) = _
    split
    · rfl
    · rw [insert_ent x r]; rfl
theorem insF_length (x : DF) : ∀ fs : List DF, (insF x fs).length = fs.length + 1
  | [] => rfl
  | y :: r => by
    rw [insF]
    split
    · rfl
    · rw [List.length_cons, insF_length x r, List.length_cons]
theorem mem_insF {x y : DF} : ∀ {fs : List DF}, y ∈ insF x fs ↔ y = x ∨ y ∈ fs
  | [] => by simp [insF]
  | z :: r => by
    rw [insF]
    split
    · simp
    · simp only [List.mem_cons, mem_insF (fs := r)]
      constructor
      · rintro (h | h | h) <;> simp [h]
      · rintro (h | h | h) <;> simp [h]

section
variable {w w' : World} {m : Nat} {fs : List DF} {name : ByteArray}
theorem ownsMap_keep {F : Nat → Prop} {P : Program} {k : TypeId} {R : Value → Option (Dt × List MemPlace)} {b n : Nat} {D : Dt} (h : w.ownsMap P k R b n D) (hk : Keep F w w') (hF : ¬ F b) : w'.ownsMap P k R b n D := by
  have hlt := h.lt
  obtain ⟨es, clock, hb, rest⟩ := h
  exact ⟨es, clock, (hk.block b hlt hF).trans hb, rest⟩
theorem ownsMap_tight {P : Program} {k : TypeId} {R : Value → Option (Dt × List MemPlace)} {b n : Nat} {es : List (Lit × Dt)} (h : w.ownsMap P k R b n (.map es)) : w.ownsMap P k R b es.length (.map es) := by
  obtain ⟨es', clock, hb, F, hs, hD⟩ := h
  refine ⟨es', clock, hb, F, ?_, hD⟩
  injection hD with hD
  rw [hD, length_sorted]
  simp
theorem MapIs.keep {F : Nat → Prop} (h : MapIs w m fs) (hk : Keep F w w') (hF : ¬ F m) : MapIs w' m fs := ownsMap_keep h hk hF
theorem MapIs.lt (h : MapIs w m fs) : m < w.heap.size := World.ownsMap.lt h
theorem MapIs.names (h : MapIs w m fs) : fs.Pairwise fun f g => f.c.name ≠ g.c.name := by
  obtain ⟨es, e, hp, _⟩ := World.ownsMap.entries h mapLaw
  injection e with e
  rw [← e, List.pairwise_map] at hp
  exact hp.imp fun h e => h (by show Lit.string _ = Lit.string _; rw [e])
theorem sameKey_str (a b : List UInt8) : (Lit.string a).sameKey (.string b) = (a == b) := rfl
theorem find_ent (n : List UInt8) : ∀ fs : List DF, (fs.map ent).find? (fun p => p.1.sameKey (.string n)) = (findF fs n).map ent
  | [] => rfl
  | f :: r => by
    have ih := find_ent n r
    unfold findF at ih ⊢
    simp only [List.map_cons, List.find?_cons]
    show (match (f.c.name == n) with | true => _ | false => _) = _
    cases (f.c.name == n)
    · exact ih
    · rfl
theorem atKey_ent (n : List UInt8) (fs : List DF) (z : Dt) : (DataW.map (fs.map ent)).atKey (.string n) z = match findF fs n with | some f => .lit (.int .i64 (f.blk : Int)) | none => z := by
  unfold DataW.atKey
  simp only [find_ent]
  cases findF fs n <;> rfl
/-- What 'd.files[name]' gives. -/
def ptrF (o : Option DF) : Value := .pointer (o.map fun f => ⟨f.blk, 0, none⟩)
theorem MapIs.look (h : MapIs w m fs) (hn : name.size ≤ maxLen) : (Instr.lookup TMAP (.map (some m)) (.string name) false).run Try.prog w = .ok (ptrF (findF fs name.data.toList)) w := by
  obtain ⟨v, ps, hrun, hv⟩ := World.ownsMap.lookup h mapLaw TM (zeroPF w) (zd := .lit (.int .i64 (-1))) (zp := []) rfl (WideMaps.keyOf_string_mk Try.underlying9 hn)
  rw [hrun]
  rw [atKey_ent] at hv
  obtain ⟨p, rfl, hy⟩ := fileElem_inv hv
  clear hrun hv
  unfold ptrF
  generalize findF fs name.data.toList = o at *
  simp only [Prod.mk.injEq] at hy
  have h1 := hy.1
  clear hy
  cases o with
  | none =>
    cases p with
    | none => rfl
    | some b => simp at h1
  | some f =>
    cases p with
    | none => simp at h1
    | some b =>
      simp at h1
      have h1 : f.blk = b := by omega
      subst h1
      rfl
theorem findF_none {n : List UInt8} (h : findF fs n = none) : ∀ f ∈ fs, f.c.name ≠ n := fun f hf e => by
  have := List.find?_eq_none.1 h f hf
  simp [e] at this
theorem findF_some {n : List UInt8} {f : DF} (h : findF fs n = some f) : f ∈ fs ∧ f.c.name = n := by
  have h1 := List.mem_of_find?_eq_some h
  have h2 := List.find?_some h
  exact ⟨h1, by simpa using h2⟩
theorem notKey_ent {n : List UInt8} : (fs.map ent).filter (ChangeMaps.notKey (.string n)) = (delF fs n).map ent := by
  unfold delF
  rw [List.filter_map]
  rfl
theorem put_ent {n : List UInt8} {x : DF} (hx : x.c.name = n) (h : ∀ f ∈ fs, f.c.name ≠ n) : (DataW.map (fs.map ent)).put (.string n) (.lit (.int .i64 (x.blk : Int))) = .map ((insF x fs).map ent) := by
  rw [DataW.put_eq, ChangeMaps.putKey, notKey_ent]
  have : delF fs n = fs := List.filter_eq_self.2 fun f hf => by simpa using h f hf
  rw [this, ← insert_ent]
  subst hx
  rfl
theorem del_ent {n : List UInt8} : (DataW.map (fs.map ent)).del (.string n) = .map ((delF fs n).map ent) := by
  rw [DataW.del_eq, ChangeMaps.delKey, notKey_ent]
theorem Keep.mapTurned {b : Nat} (h : w.mapTurned w' b) : Keep (· = b) w w' := by
  have hg := h.grown
  exact ⟨hg.os, hg.tape, hg.output, hg.size, fun k hk hn => hg.block k hk fun e => hn (Option.some.inj e)⟩
/-- 'd.files[name] = f', for a name that is new. -/
theorem MapIs.store (h : MapIs w m fs) (hn : name.size ≤ maxLen) (hl : fs.length < maxLen) (hno : ∀ f ∈ fs, f.c.name ≠ name.data.toList) (x : DF) (hx : x.c.name = name.data.toList) :
    ∃ w', (Instr.mapUpdate TMAP (.map (some m)) (.string name) (.pointer (some ⟨x.blk, 0, none⟩))).run Try.prog w = .ok () w' ∧ MapIs w' m (insF x fs) ∧ Keep (· = m) w w' := by
  obtain ⟨w', hrun, h1, h2⟩ := World.ownsMap.store h mapLaw TM hl (WideMaps.keyOf_string_mk Try.underlying9 hn) (fileElem_mk x.blk)
  refine ⟨w', hrun, ?_, Keep.mapTurned h2⟩
  rw [put_ent hx hno] at h1
  have := ownsMap_tight h1
  rw [List.length_map] at this
  exact this
theorem MapIs.drop (h : MapIs w m fs) (hn : name.size ≤ maxLen) (ty : TypeId) :
    ∃ w', (Builtin.delete_ #[TMAP, TSTR] ty #[.map (some m), .string name]).run Try.prog w = .ok (.tuple #[]) w' ∧ MapIs w' m (delF fs name.data.toList) ∧ Keep (· = m) w w' := by
  obtain ⟨w', hrun, h1, h2⟩ := World.ownsMap.drop h mapLaw TM (WideMaps.keyOf_string_mk Try.underlying9 hn) ty
  refine ⟨w', hrun, ?_, Keep.mapTurned h2⟩
  rw [del_ent] at h1
  have := ownsMap_tight h1
  rw [List.length_map] at this
  exact this
theorem MapIs.made (w : World) : MapIs (w.alloc (.map #[] 0)) w.heap.size [] := World.ownsMap_made _ _ _ _
end

/-- A file in its block; its bytes lie in S. -/
def FileAt (w : World) (S : BS) (b : Nat) (c : DC) : Prop := ∃ v, Blk w b TFIL #[v, .int .i64 (c.l : Int)] ∧ BytesS w S v c.b ∧ c.l ≤ c.b.length
theorem FileAt.keep {F : Nat → Prop} {w w' : World} {S : BS} {b : Nat} {c : DC} (h : FileAt w S b c) (hk : Keep F w w') (hb : ¬ F b) (hS : ∀ k, S k → ¬ F k) : FileAt w' S b c := by
  obtain ⟨v, h1, h2, h3⟩ := h
  exact ⟨v, h1.keep hk hb, h2.keep EU8.ok hk hS, h3⟩
theorem FileAt.more {w : World} {S S' : BS} {b : Nat} {c : DC} (h : FileAt w S b c) (hS : ∀ k, k < w.heap.size → S k → S' k) : FileAt w S' b c := by
  obtain ⟨v, h1, h2, h3⟩ := h
  exact ⟨v, h1, h2.more EU8.ok hS, h3⟩
theorem FileAt.lt {w : World} {S : BS} {b : Nat} {c : DC} (h : FileAt w S b c) : b < w.heap.size := by obtain ⟨v, h1, _⟩ := h; exact h1.lt

def usedC (cs : List DC) : Nat := (cs.map fun c => c.b.length).sum
/-- What stands in a disk, beside its files. -/
structure DSt where
  room : Nat
  full : Bool
  left : Int
structure DOk (cs : List DC) (s : DSt) : Prop where
  room : s.room ≤ 1048576
  used : usedC cs ≤ s.room
  many : cs.length ≤ 64
  names : ∀ c ∈ cs, 0 < c.name.length ∧ c.name.length ≤ 30
  left : -1 ≤ s.left ∧ s.left ≤ 9223372036854775807

/-- A disk, in the blocks B. The files' rows of bytes lie in blocks that no file and no map is. -/
structure DiskAt (w : World) (B : BS) (d m : Nat) (fs : List DF) (s : DSt) : Prop where
  own : B d
  ownm : B m
  blk : Blk w d TDSK #[.map (some m), .int .i64 (s.room : Int), .bool s.full, .int .i64 s.left]
  map : MapIs w m fs
  files : ∀ f ∈ fs, B f.blk ∧ FileAt w (fun k => B k ∧ k ≠ d ∧ k ≠ m ∧ ∀ g ∈ fs, k ≠ g.blk) f.blk f.c
  apart : fs.Pairwise fun f g => f.blk ≠ g.blk
def DiskIs (w : World) (B : BS) (d : Nat) (cs : List DC) (s : DSt) : Prop := DOk cs s ∧ ∃ m fs, DiskAt w B d m fs s ∧ fs.map DF.c = cs

section
variable {w w' : World} {B B' : BS} {d m : Nat} {fs : List DF} {s : DSt}
theorem Blk.not_map {g : Nat} {t : TypeId} {cs : Array Value} (h : Blk w g t cs) (h' : MapIs w g fs) : False := by
  obtain ⟨es, clock, hb, _⟩ := h'
  unfold Blk at h
  rw [h] at hb
  cases hb
theorem DiskAt.ne (h : DiskAt w B d m fs s) : d ≠ m := fun e => by subst e; exact h.blk.not_map h.map
theorem DiskAt.ned (h : DiskAt w B d m fs s) {f : DF} (hf : f ∈ fs) : f.blk ≠ d ∧ f.blk ≠ m := by
  obtain ⟨_, v, hb, _⟩ := h.files f hf
  refine ⟨hb.ne_ h.blk (by decide), fun e => ?_⟩
  rw [e] at hb
  exact hb.not_map h.map
theorem DiskAt.keep {F : Nat → Prop} (h : DiskAt w B d m fs s) (hk : Keep F w w') (hF : ∀ k, B k → ¬ F k) : DiskAt w' B d m fs s :=
  ⟨h.own, h.ownm, h.blk.keep hk (hF _ h.own), h.map.keep hk (hF _ h.ownm), fun f hf => ⟨(h.files f hf).1, (h.files f hf).2.keep hk (hF _ (h.files f hf).1) fun k hk => hF k hk.1⟩, h.apart⟩
theorem DiskAt.more (h : DiskAt w B d m fs s) (hB : ∀ k, k < w.heap.size → B k → B' k) : DiskAt w B' d m fs s :=
  ⟨hB _ h.blk.lt h.own, hB _ h.map.lt h.ownm, h.blk, h.map, fun f hf => ⟨hB _ (h.files f hf).2.lt (h.files f hf).1, (h.files f hf).2.more fun k hk hs => ⟨hB k hk hs.1, hs.2⟩⟩, h.apart⟩
theorem DiskIs.keep {F : Nat → Prop} {cs : List DC} (h : DiskIs w B d cs s) (hk : Keep F w w') (hF : ∀ k, B k → ¬ F k) : DiskIs w' B d cs s := by
  obtain ⟨h0, m, fs, h1, h2⟩ := h
  exact ⟨h0, m, fs, h1.keep hk hF, h2⟩
theorem DiskIs.ext {cs : List DC} (h : DiskIs w B d cs s) (hk : Ext w w') : DiskIs w' B d cs s := h.keep hk fun _ _ x => x
theorem DiskIs.more {cs : List DC} (h : DiskIs w B d cs s) (hB : ∀ k, k < w.heap.size → B k → B' k) : DiskIs w B' d cs s := by
  obtain ⟨h0, m, fs, h1, h2⟩ := h
  exact ⟨h0, m, fs, h1.more hB, h2⟩
end
end Go.Proofs.Ytikophoopapngaa
