/- The law's 'plain': a text's first bytes, each below 128. -/
import Derived.Test.YtggkidnlmaindaaDoorToks
import Derived.Test.YtggkidnlmaindaaDoorConvS
import Derived.Test.YtggkidnlmaindaaDoorGrowAid
set_option linter.unusedSimpArgs false
set_option linter.unusedVariables false
namespace Go.Proofs.YtggkidnlmaindaaDoor
open Go.RowKit
set_option linter.unusedVariables false

/-- The bytes of a text, at most 40, each modulo 128. -/
def plainL (s : ByteArray) : List UInt8 := (s.data.toList.take 40).map (· % 128)
theorem plain_asc (s : ByteArray) : Asc (textOf (plainL s)) := by
  refine ⟨fun c hc => ?_, ?_⟩
  · simp only [textOf, plainL, List.mem_map] at hc
    obtain ⟨x, _, rfl⟩ := hc
    rw [UInt8.toNat_mod]
    exact Nat.mod_lt _ (by decide)
  · have : (textOf (plainL s)).size = (plainL s).length := by simp [textOf, ByteArray.size]
    rw [this, plainL, List.length_map, List.length_take]
    omega
theorem plain_len (s : ByteArray) : (plainL s).length ≤ 40 := by simp [plainL]; omega
theorem ty_u8 : TyInfo Tryd.prog 70 5 1 1 := by
  obtain ⟨i, h1, h2, h3, h4⟩ := info_parts (show (Tryd.prog.info? 5).map (fun i => (i.zero, i.size, i.bytes)) = some (some (.int .u8 0), 1, 1) from by kernel_rfl)
  exact ⟨Tryd.underlying70, i, _, h1, h2, h3, h4, rfl⟩

set_option maxRecDepth 100000 in
set_option maxHeartbeats 1600000 in
theorem plain_ok (s : ByteArray) (w : World) :
    Calls Tryd.prog 75 #[.string s] w fun e w' => e = .returned (.string (textOf (plainL s))) ∧ Ext w w' := by
  go_enter Tryd.func75, Tryd.ntmps75
  go_wp2_with fail
  go_loopw [3, 4] (fun b i wr => ∃ j : Nat, j ≤ 40 ∧ j ≤ s.size ∧ i = .int .i64 j ∧ Own EU8 wr w.heap.size 5 (fun _ => False) b ((s.data.toList.take j).map (· % 128)) ∧ Ext w wr) (fun _ i _ => 40 - (intOf i).toNat)
  case atStart => exact ⟨0, by omega, by omega, rfl, Own.nil _ _ _ _, Keep.refl _ _⟩
  case round =>
    obtain ⟨j, hj, hjs, rfl, hown, hE⟩ := hrel
    obtain ⟨A, c, rfl, hl, hc⟩ := hown.shape
    have hlen : ((s.data.toList.take j).map (· % 128)).length = j := by
      rw [List.length_map, List.length_take]
      have : s.data.toList.length = s.size := Array.length_toList
      omega
    rw [hlen] at hown ⊢
    have HO := hid hown
    have HE := hid hE
    clear hown hE
    have hstop : ¬ (j < s.size ∧ j < 40) → (s.data.toList.take j).map (· % 128) = plainL s := by
      intro h
      unfold plainL
      rcases Nat.lt_or_ge j 40 with h1 | h1
      · have h2 : s.data.toList.length = s.size := Array.length_toList
        rw [List.take_of_length_le (by omega), List.take_of_length_le (by omega)]
      · obtain rfl : j = 40 := by omega
        rfl
    by_cases h1 : j < s.size
    · by_cases h2 : j < 40
      · have hnext : (s.data.toList.take j).map (· % 128) ++ [s[j] % 128] = (s.data.toList.take (j + 1)).map (· % 128) := by
          have h3 : s.data.toList.length = s.size := Array.length_toList
          rw [List.take_succ_eq_append_getElem (by omega), List.map_append]
          rfl
        have HX := hid hnext
        have hnew := bytes_new (w := wr) (t := 5) (f := (0, 0)) [s[j] % 128] (by simp [maxLen])
        have hu : [s[j] % 128].map U8 = [Value.int .u8 ((s[j].toNat : Int) % 128)] := by
          simp only [List.map_cons, List.map_nil, U8, UInt8.toNat_mod]
          rfl
        rw [hu] at hnew
        have HV := hid hnew
        have HO2 := hid (HO.out.ext EU8.ok ((Keep.refl (fun _ => False) wr).alloc (.cells [Value.int .u8 ((s[j].toNat : Int) % 128)].toArray 5)))
        have HLN := hid hlen
        generalize (s.data.toList.take j).map (· % 128) = tj at *
        clear hnew hu hnext hstop
        have h1X : (j : Int) < s.size := by omega
        have h2X : (j : Int) < 40 := by omega
        go_wp2_with (at_builtin; refine wpList_append_bytes rfl (.tmp 15) (.tmp 20) ty_u8 rfl rfl rfl HO2.out HV.out ?c1 ?c2 ?c3 ?_)
        case c1 => intro g hg h; have := HO.out.lt (show (Value.slice A j c).ownBlock = some g from hg); omega
        case c2 => simp; omega
        case c3 => have := HE.out.size; simp; omega
        intro A' c' w' h3 h4 h5 h6
        have HO3 := hid h3
        have HE3 := hid (HE.out.trans ((Keep.alloc (Keep.refl (fun k => (Value.slice A j c).ownBlock = some k) wr) _).trans h6 fun k _ e => e) fun k hk e => by have := (HO.out.lt (show (Value.slice A j c).ownBlock = some k from e)).1; omega)
        have hl3 : tj.length + [s[j] % 128].length = j + 1 := by have := HLN.out; simp; omega
        clear h3 h4 h6 HO HO2 HV HE hlen
        go_wp2
        go_roundw
        case rel => exact ⟨j + 1, by omega, by omega, by go_num, by rw [← HX.out]; exact HO3.out, HE3.out⟩
        case measure => simp [intOf]; omega
      · have hl := hstop (by omega)
        have HC := convert_bytesS (HO.out.sl EU8.ok)
        rw [hl] at HC
        have HE2 := hid HE.out
        clear HO HE hstop hlen hl
        go_wp2
        go_ret
        exact ⟨rfl, HE2.out⟩
    · have hl := hstop (by omega)
      have HC := convert_bytesS (HO.out.sl EU8.ok)
      rw [hl] at HC
      have HE2 := hid HE.out
      clear HO HE hstop hlen hl
      go_wp2
      go_ret
      exact ⟨rfl, HE2.out⟩
end Go.Proofs.YtggkidnlmaindaaDoor
