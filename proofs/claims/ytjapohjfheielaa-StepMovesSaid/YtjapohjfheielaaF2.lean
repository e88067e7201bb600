/- The frame's part for a parameter that is a row of three int64. Conditions: none. -/
import Derived.Test.YtjapohjfheielaaF1
namespace Go.Proofs.Ytjapohjfheielaa
open Go.ChangeShapes Go.WideShapes Go.ChangeAt Go.RowKit Go.Deep

section
variable {H : Type} {enc : TypeId × Value → H} {w : World} {base : Nat} {spare : Nat → Bool} {held : Bool}

theorem open_three {r : Reach} {b0 : Nat} {v : Value} {d : DataW H} {ps : List MemPlace} (hval : Value.okWide Try.prog w r b0 26 v) (hd : DataW.Trod enc Try.prog w base spare held 26 v d ps) :
    ∃ y0 y1 y2 : Int, v = .agg #[.int .i64 y0, .int .i64 y1, .int .i64 y2] := by
  have c2 : Try.prog.cellsOf 2 = 1 := by kernel_rfl
  have c26 : Try.prog.cellsOf 26 = 3 := by kernel_rfl
  simp only [Value.okWide, Try.underlying26] at hval
  obtain ⟨cs, rfl, hs, _⟩ := hval
  rw [c26] at hs
  obtain ⟨fuel, hf⟩ := hd
  simp only [Value.cells] at hf
  obtain ⟨l⟩ := cs
  match l, hs with
  | [v0, v1, v2], _ =>
    obtain ⟨_, _, _, _, _, a0, a1, a2⟩ := trod_array3 (c0 := v0) (c1 := v1) (c2 := v2) Try.underlying26 c2 hf
    obtain ⟨x0, hx0, _, w0⟩ := DataW.trod_int Try.underlying2 a0
    obtain ⟨x1, hx1, _, w1⟩ := DataW.trod_int Try.underlying2 a1
    obtain ⟨x2, hx2, _, w2⟩ := DataW.trod_int Try.underlying2 a2
    cases hx0; cases hx1; cases hx2
    exact ⟨x0, x1, x2, rfl⟩
end
end Go.Proofs.Ytjapohjfheielaa
