/- The law's example of chapter 03. -/
import Derived.Test.YtjdpljjbgggpiaaDoorPathG
import Derived.Test.YtjdpljjbgggpiaaDoorPathSnd
import Derived.Test.YtjdpljjbgggpiaaDoorLawOneA
set_option linter.unusedSimpArgs false
set_option linter.unusedVariables false
namespace Go.Proofs.YtjdpljjbgggpiaaDoor
open Go.RowKit
set_option linter.unusedVariables false

theorem flat_at' (w : World) (S : BS) (k : UInt8) (n : Int) (s : ByteArray) : rdV w S (.mk k n s [] []) [U8 k, .int .i64 n, .string s, .slice none 0 0, .slice none 0 0] := rdV_iff.2 ⟨_, _, rfl, Sl.nil _ _, Sl.nil _ _⟩
abbrev kA : V := .mk 2 1 ⟨#[]⟩ [] []
abbrev kB : V := .mk 2 2 ⟨#[]⟩ [] []
abbrev kL : V := .mk 4 0 ⟨#[]⟩ [kA, kB] []
abbrev kV : V := .mk 5 0 ⟨#[]⟩ [] [.mk ⟨#[97]⟩ kL]
theorem k_field : fieldL kV.o ⟨#[97]⟩ = 0 ∧ fieldIs kV.o ⟨#[97]⟩ = true := by
  have h : fieldL kV.o ⟨#[97]⟩ = 0 := fieldL_at (by simp [V.o]) (fun i hi h => by omega) (fun h => less_irrefl _)
  exact ⟨h, by rw [fieldIs_some (by simp [V.o]) h]; simp [V.o, F.key]⟩
theorem k_step : stepV kV ⟨false, 0, ⟨#[97]⟩⟩ = some (.o 0) := by
  rw [stepV_o rfl, if_pos ⟨rfl, k_field.2⟩, k_field.1]
theorem k_get1 : getV kV [⟨false, 0, ⟨#[97]⟩⟩, ⟨true, 1, ⟨#[]⟩⟩] = some kB := by
  simp only [getV, k_step]
  rfl
theorem k_get2 : getV kV [⟨false, 0, ⟨#[97]⟩⟩, ⟨true, 5, ⟨#[]⟩⟩] = none := by
  simp only [getV, k_step]
  rfl
theorem k_size : kV.size ≤ 1000000 := by simp [V.size, V.sizes, F.sizes, F.size]
abbrev cA : List Value := [.int .u8 2, .int .i64 1, .string ⟨#[]⟩, .slice none 0 0, .slice none 0 0]
abbrev cB : List Value := [.int .u8 2, .int .i64 2, .string ⟨#[]⟩, .slice none 0 0, .slice none 0 0]
theorem k_at (w : World) (b1 : Nat) (h1 : Blk w b1 TVAL #[.int .u8 2, .int .i64 1, .string ⟨#[]⟩, .slice none 0 0, .slice none 0 0, .int .u8 2, .int .i64 2, .string ⟨#[]⟩, .slice none 0 0, .slice none 0 0])
    (b2 : Nat) (h2 : Blk w b2 TFIELD #[.string ⟨#[97]⟩, .int .u8 4, .int .i64 0, .string ⟨#[]⟩, .slice (some ⟨b1, 0, none⟩) 2 2, .slice none 0 0]) :
    VAt w (fun _ => True) (.agg #[.int .u8 5, .int .i64 0, .string ⟨#[]⟩, .slice none 0 0, .slice (some ⟨b2, 0, none⟩) 1 1]) kV := by
  have hA : rdV w (fun _ => True) kA cA := (flat_at' w _ 2 1 ⟨#[]⟩)
  have hB : rdV w (fun _ => True) kB cB := (flat_at' w _ 2 2 ⟨#[]⟩)
  have hl : Sl EVal w (fun _ => True) (.slice (some ⟨b1, 0, none⟩) 2 2) [kA, kB] := ⟨cA ++ (cB ++ []), ⟨rfl, _, 2, rfl, by simp, by simp [maxLen], fun _ => ⟨b1, 0, rfl, trivial, h1.lt, fun j u hu => by rw [Nat.zero_add, h1.cell]; simpa using hu⟩⟩, ⟨_, _, rfl, hA, ⟨_, _, rfl, hB, rfl⟩⟩⟩
  have hL : rdV w (fun _ => True) kL [.int .u8 4, .int .i64 0, .string ⟨#[]⟩, .slice (some ⟨b1, 0, none⟩) 2 2, .slice none 0 0] := rdV_iff.2 ⟨_, _, rfl, hl, Sl.nil _ _⟩
  refine ⟨.slice none 0 0, .slice (some ⟨b2, 0, none⟩) 1 1, rfl, Sl.nil _ _, ⟨_, ⟨rfl, _, 1, rfl, by simp [V.o], by simp [maxLen], fun _ => ⟨b2, 0, rfl, trivial, h2.lt, fun j u hu => by rw [Nat.zero_add, h2.cell]; simpa [F.key] using hu⟩⟩, Cells.single (rdF_iff.2 ⟨_, rfl, hL⟩)⟩⟩

theorem steps_at (w : World) (i : Int) : Sl ESt (w.alloc (.cells #[.bool false, .int .i64 0, .string ⟨#[97]⟩, .bool true, .int .i64 i, .string ⟨#[]⟩] TSTEP)) (fun _ => True) (.slice (some ⟨w.heap.size, 0, none⟩) 2 2) [⟨false, 0, ⟨#[97]⟩⟩, ⟨true, i, ⟨#[]⟩⟩] :=
  ⟨[.bool false, .int .i64 0, .string ⟨#[97]⟩, .bool true, .int .i64 i, .string ⟨#[]⟩], (RowS.new (w := w) (t := TSTEP) (sz := 3) (n := 2) (cs := [.bool false, .int .i64 0, .string ⟨#[97]⟩, .bool true, .int .i64 i, .string ⟨#[]⟩]) rfl (by simp [maxLen]) (0, 0)).more fun _ _ _ => trivial,
    ⟨[.bool false, .int .i64 0, .string ⟨#[97]⟩], [.bool true, .int .i64 i, .string ⟨#[]⟩], rfl, rfl, ⟨[.bool true, .int .i64 i, .string ⟨#[]⟩], [], rfl, rfl, rfl⟩⟩⟩
theorem step_at (w : World) : Sl ESt (w.alloc (.cells #[.bool true, .int .i64 0, .string ⟨#[97]⟩] TSTEP)) (fun _ => True) (.slice (some ⟨w.heap.size, 0, none⟩) 1 1) [⟨true, 0, ⟨#[97]⟩⟩] :=
  ⟨[.bool true, .int .i64 0, .string ⟨#[97]⟩], (RowS.new (w := w) (t := TSTEP) (sz := 3) (n := 1) (cs := [.bool true, .int .i64 0, .string ⟨#[97]⟩]) rfl (by simp [maxLen]) (0, 0)).more fun _ _ _ => trivial, Cells.single rfl⟩
theorem k_world (w : World) : Blk (((w.alloc (.cells #[.int .u8 2, .int .i64 1, .string ⟨#[]⟩, .slice none 0 0, .slice none 0 0, .int .u8 2, .int .i64 2, .string ⟨#[]⟩, .slice none 0 0, .slice none 0 0] TVAL)).alloc (.cells #[.string ⟨#[97]⟩, .int .u8 4, .int .i64 0, .string ⟨#[]⟩, .slice (some ⟨w.heap.size, 0, none⟩) 2 2, .slice none 0 0] TFIELD)).alloc (.cells #[.int .u8 5, .int .i64 0, .string ⟨#[]⟩, .slice none 0 0, .slice (some ⟨w.heap.size + 1, 0, none⟩) 1 1] TVAL)) w.heap.size TVAL #[.int .u8 2, .int .i64 1, .string ⟨#[]⟩, .slice none 0 0, .slice none 0 0, .int .u8 2, .int .i64 2, .string ⟨#[]⟩, .slice none 0 0, .slice none 0 0] ∧ Blk (((w.alloc (.cells #[.int .u8 2, .int .i64 1, .string ⟨#[]⟩, .slice none 0 0, .slice none 0 0, .int .u8 2, .int .i64 2, .string ⟨#[]⟩, .slice none 0 0, .slice none 0 0] TVAL)).alloc (.cells #[.string ⟨#[97]⟩, .int .u8 4, .int .i64 0, .string ⟨#[]⟩, .slice (some ⟨w.heap.size, 0, none⟩) 2 2, .slice none 0 0] TFIELD)).alloc (.cells #[.int .u8 5, .int .i64 0, .string ⟨#[]⟩, .slice none 0 0, .slice (some ⟨w.heap.size + 1, 0, none⟩) 1 1] TVAL)) (w.heap.size + 1) TFIELD #[.string ⟨#[97]⟩, .int .u8 4, .int .i64 0, .string ⟨#[]⟩, .slice (some ⟨w.heap.size, 0, none⟩) 2 2, .slice none 0 0] ∧ Blk (((w.alloc (.cells #[.int .u8 2, .int .i64 1, .string ⟨#[]⟩, .slice none 0 0, .slice none 0 0, .int .u8 2, .int .i64 2, .string ⟨#[]⟩, .slice none 0 0, .slice none 0 0] TVAL)).alloc (.cells #[.string ⟨#[97]⟩, .int .u8 4, .int .i64 0, .string ⟨#[]⟩, .slice (some ⟨w.heap.size, 0, none⟩) 2 2, .slice none 0 0] TFIELD)).alloc (.cells #[.int .u8 5, .int .i64 0, .string ⟨#[]⟩, .slice none 0 0, .slice (some ⟨w.heap.size + 1, 0, none⟩) 1 1] TVAL)) (w.heap.size + 2) TVAL #[.int .u8 5, .int .i64 0, .string ⟨#[]⟩, .slice none 0 0, .slice (some ⟨w.heap.size + 1, 0, none⟩) 1 1] ∧ Ext w (((w.alloc (.cells #[.int .u8 2, .int .i64 1, .string ⟨#[]⟩, .slice none 0 0, .slice none 0 0, .int .u8 2, .int .i64 2, .string ⟨#[]⟩, .slice none 0 0, .slice none 0 0] TVAL)).alloc (.cells #[.string ⟨#[97]⟩, .int .u8 4, .int .i64 0, .string ⟨#[]⟩, .slice (some ⟨w.heap.size, 0, none⟩) 2 2, .slice none 0 0] TFIELD)).alloc (.cells #[.int .u8 5, .int .i64 0, .string ⟨#[]⟩, .slice none 0 0, .slice (some ⟨w.heap.size + 1, 0, none⟩) 1 1] TVAL)) ∧ (((w.alloc (.cells #[.int .u8 2, .int .i64 1, .string ⟨#[]⟩, .slice none 0 0, .slice none 0 0, .int .u8 2, .int .i64 2, .string ⟨#[]⟩, .slice none 0 0, .slice none 0 0] TVAL)).alloc (.cells #[.string ⟨#[97]⟩, .int .u8 4, .int .i64 0, .string ⟨#[]⟩, .slice (some ⟨w.heap.size, 0, none⟩) 2 2, .slice none 0 0] TFIELD)).alloc (.cells #[.int .u8 5, .int .i64 0, .string ⟨#[]⟩, .slice none 0 0, .slice (some ⟨w.heap.size + 1, 0, none⟩) 1 1] TVAL)).heap.size = w.heap.size + 3 := by
  refine ⟨((Blk.new _ _ _).alloc _).alloc _, ?_, ?_, (((Keep.refl _ _).alloc _).alloc _).alloc _, by simp⟩
  · have := (Blk.new (w.alloc (.cells #[.int .u8 2, .int .i64 1, .string ⟨#[]⟩, .slice none 0 0, .slice none 0 0, .int .u8 2, .int .i64 2, .string ⟨#[]⟩, .slice none 0 0, .slice none 0 0] TVAL)) TFIELD #[.string ⟨#[97]⟩, .int .u8 4, .int .i64 0, .string ⟨#[]⟩, .slice (some ⟨w.heap.size, 0, none⟩) 2 2, .slice none 0 0]).alloc (.cells #[.int .u8 5, .int .i64 0, .string ⟨#[]⟩, .slice none 0 0, .slice (some ⟨w.heap.size + 1, 0, none⟩) 1 1] TVAL)
    rwa [World.size_alloc] at this
  · have := Blk.new ((w.alloc (.cells #[.int .u8 2, .int .i64 1, .string ⟨#[]⟩, .slice none 0 0, .slice none 0 0, .int .u8 2, .int .i64 2, .string ⟨#[]⟩, .slice none 0 0, .slice none 0 0] TVAL)).alloc (.cells #[.string ⟨#[97]⟩, .int .u8 4, .int .i64 0, .string ⟨#[]⟩, .slice (some ⟨w.heap.size, 0, none⟩) 2 2, .slice none 0 0] TFIELD)) TVAL #[.int .u8 5, .int .i64 0, .string ⟨#[]⟩, .slice none 0 0, .slice (some ⟨w.heap.size + 1, 0, none⟩) 1 1]
    rwa [World.size_alloc, World.size_alloc] at this
set_option maxHeartbeats 3200000 in
theorem known3_ok (w : World) : Calls Tryd.prog 11 #[] w fun e w' => e = .returned (.bool true) ∧ Ext w w' := by
  obtain ⟨hb1, hb2, hb3, hE, hz⟩ := k_world w
  go_enter Tryd.func11, Tryd.ntmps11
  go_wp2_with fail
  generalize (((w.alloc (.cells #[.int .u8 2, .int .i64 1, .string ⟨#[]⟩, .slice none 0 0, .slice none 0 0, .int .u8 2, .int .i64 2, .string ⟨#[]⟩, .slice none 0 0, .slice none 0 0] TVAL)).alloc (.cells #[.string ⟨#[97]⟩, .int .u8 4, .int .i64 0, .string ⟨#[]⟩, .slice (some ⟨w.heap.size, 0, none⟩) 2 2, .slice none 0 0] TFIELD)).alloc (.cells #[.int .u8 5, .int .i64 0, .string ⟨#[]⟩, .slice none 0 0, .slice (some ⟨w.heap.size + 1, 0, none⟩) 1 1] TVAL)) = w3 at *
  have hva := k_at w3 _ hb1 _ hb2
  have HVA := hid hva
  have HB3 := hid hb3
  have HE := hid hE
  have hst := steps_at w3 1
  rw [hz] at hst
  have hE4 : Ext w3 (w3.alloc (.cells #[.bool false, .int .i64 0, .string ⟨#[97]⟩, .bool true, .int .i64 1, .string ⟨#[]⟩] TSTEP)) := (Keep.refl _ _).alloc _
  have hz4 : w.heap.size + 2 < w3.heap.size := hb3.lt
  clear hb1 hb2 hb3 hE hva
  refine (path_get _ _ _ kV _ _ _ (HVA.out.ext hE4) hst k_size).mono ?_
  rintro e w5 hg
  rw [k_get1] at hg
  obtain ⟨u, rfl, ⟨lv, ov, hu, htv⟩, hE5⟩ := hg
  obtain ⟨⟨A1, d1, hl1⟩, ⟨A2, d2, hl2⟩⟩ := htv.shapes
  obtain rfl : lv = .slice A1 0 d1 := hl1
  obtain rfl : ov = .slice A2 0 d2 := hl2
  obtain rfl : u = .agg #[.int .u8 2, .int .i64 2, .string ⟨#[]⟩, .slice A1 0 d1, .slice A2 0 d2] := hu
  have HE5 := hid (hE4.ext hE5)
  obtain ⟨z0, z1, z2, z3, z4⟩ := blk5 (HB3.out.keep HE5.out id)
  have hz5 : w.heap.size + 2 < w5.heap.size := (HB3.out.keep HE5.out id).lt
  clear hst hE4 hE5 htv hz
  go_wp2_with fail
  have hX := (Keep.refl (fun _ => False) w5).alloc (.cells #[.int .u8 2, .int .i64 2, .string ⟨#[]⟩, .slice A1 0 d1, .slice A2 0 d2] TVAL)
  have hbX := Blk.new w5 TVAL #[.int .u8 2, .int .i64 2, .string ⟨#[]⟩, .slice A1 0 d1, .slice A2 0 d2]
  have hst := steps_at (w5.alloc (.cells #[.int .u8 2, .int .i64 2, .string ⟨#[]⟩, .slice A1 0 d1, .slice A2 0 d2] TVAL)) 5
  rw [World.size_alloc] at hst
  have hE6 := hX.alloc (.cells #[.bool false, .int .i64 0, .string ⟨#[97]⟩, .bool true, .int .i64 5, .string ⟨#[]⟩] TSTEP)
  have hb6 := hbX.alloc (.cells #[.bool false, .int .i64 0, .string ⟨#[97]⟩, .bool true, .int .i64 5, .string ⟨#[]⟩] TSTEP)
  refine (path_get _ _ _ kV _ _ _ ((HVA.out.ext HE5.out).ext hE6) hst k_size).mono ?_
  rintro e w7 hg
  rw [k_get2] at hg
  obtain ⟨rfl, hE7⟩ := hg
  have HE7 := hid (((HE.out.ext HE5.out).ext hE6).ext hE7)
  have hb7 := hb6.keep hE7 id
  have HB7 := hid hb7
  obtain ⟨y0, y1, y2, y3, y4⟩ := blk5 hb7
  have hz7 : w5.heap.size < w7.heap.size := hb7.lt
  clear z0 z1 z2 z3 z4 hX hbX hst hE6 hb6 hE7 hb7 HVA HB3
  have hE8 := (Keep.refl (fun _ => False) w7).alloc (.cells #[.int .u8 0, .int .i64 0, .string ⟨#[]⟩, .slice none 0 0, .slice none 0 0] TVAL)
  have HE8 := hid hE8
  clear hE8
  go_wp2_with fail
  refine (path_sound (fun _ => true) _ (fun _ => True) _ [] (Sl.nil _ _) (fun s hs => by simp at hs)).mono ?_
  rintro e w9 ⟨rfl, hE9⟩
  have HE9 := hid ((HE7.out.ext HE8.out).ext hE9)
  have hE10 := (Keep.refl (fun _ => False) w9).alloc (.cells #[.bool true, .int .i64 0, .string ⟨#[97]⟩] TSTEP)
  have HE10 := hid hE10
  have HST := hid (step_at w9)
  clear hE9 hE10 y0 y1 y2 y3 y4
  have hb1 : (decide (([] : List St).length ≤ 16) && !([] : List St).any (fun _ => true)) = true := rfl
  rw [hb1]
  go_wp2_with fail
  refine (path_sound (fun _ => true) _ (fun _ => True) _ _ HST.out (fun s hs => by rw [List.mem_singleton.1 hs]; exact bad_key _ 0)).mono ?_
  rintro e w11 ⟨rfl, hE11⟩
  have hb2 : (decide (([⟨true, 0, ⟨#[97]⟩⟩] : List St).length ≤ 16) && !([⟨true, 0, ⟨#[97]⟩⟩] : List St).any (fun _ => true)) = false := rfl
  rw [hb2]
  have HE11 := hid ((HE9.out.ext HE10.out).ext hE11)
  clear hE11
  go_wp2
  go_ret
  exact ⟨rfl, HE11.out⟩
end Go.Proofs.YtjdpljjbgggpiaaDoor
