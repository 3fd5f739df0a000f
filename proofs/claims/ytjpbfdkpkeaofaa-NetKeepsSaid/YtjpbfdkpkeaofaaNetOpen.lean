/- The argument of the net's laws, opened. -/
import Derived.Test.YtjpbfdkpkeaofaaOpenEl
import Derived.Test.YtjpbfdkpkeaofaaNetLawA
namespace Go.Proofs.Ytjpbfdkpkeaofaa
open Go.ChangeShapes Go.WideShapes Go.ChangeAt Go.RowKit Go.Deep

theorem ops_of_trod {H : Type} {enc : TypeId × Value → H} {W : World} {spare : Nat → Bool} {held : Bool} {v : Value} {d : DataW H} {p : List MemPlace} (hv : ∃ a len cap, v = .slice a len cap) (h : DataW.Trod enc Try.prog W 0 spare held 22 v d p) :
    ∃ l : List LOp, Sl EOp W (fun k => k < W.heap.size) v l := by
  refine sl_of_trod EOp.ok Try.underlying22 Try.underlying30 (by kernel_rfl) (by kernel_rfl) rfl hv h ?_
  intro cs hl hf
  obtain ⟨u0, n0, y0, e0, h0⟩ := hf 0 _ rfl
  obtain ⟨u1, n1, y1, e1, h1⟩ := hf 1 _ rfl
  obtain ⟨u2, n2, y2, e2, h2⟩ := hf 2 _ rfl
  obtain ⟨u3, n3, y3, e3, h3⟩ := hf 3 _ rfl
  obtain ⟨u4, n4, y4, e4, h4⟩ := hf 4 _ rfl
  obtain ⟨z0, r0, _, wf0⟩ := DataW.trod_int Try.underlying5 h0
  obtain ⟨z1, r1, _, _⟩ := DataW.trod_int Try.underlying3 h1
  obtain ⟨z2, r2, _⟩ := DataW.trod_bool Try.underlying4 h2
  obtain ⟨z4, r4, _, _⟩ := DataW.trod_int Try.underlying3 h4
  obtain ⟨k, rfl⟩ := u8_of_wf wf0
  have hsl : ∃ a len cap, u3 = .slice a len cap := by
    rcases open_slice Try.underlying28 h3 with ⟨h, _⟩ | ⟨a, len, cap, _, _, _, _, h, _⟩
    · exact ⟨_, _, _, by simpa using h⟩
    · exact ⟨_, _, _, by simpa using h⟩
  obtain ⟨b, hb⟩ := bytes_of_trod (d := y3.1) (p := y3.2) Try.underlying28 Try.underlying5 (by kernel_rfl) hsl ⟨n3, by obtain ⟨a, len, cap, rfl⟩ := hsl; exact h3⟩
  refine ⟨⟨k, z1, z2, b, z4⟩, u3, ?_, bytesS_of hb⟩
  have hl5 : cs.length = 5 := hl
  simp at r0 r1 r2 r4
  subst r0 r1 r2 r4
  match cs, hl5 with
  | [a0, a1, a2, a3, a4], _ => simp at e0 e1 e2 e3 e4; subst e0 e1 e2 e3 e4; rfl
end Go.Proofs.Ytjpbfdkpkeaofaa
