/- Walks: math.Ldexp. Conditions: as ldexp's. -/
import Derived.Test.YtlegkefonpiakaaK11
namespace Go.Proofs.Ytlegkefonpiakaa
open Go.RowKit
theorem ldexpM_any (x D : Nat) (e : Int) (w : World) (h : ∀ u, Calls Try.prog 53 #[.float .f64 x, .int .i64 e] u fun e' w' => e' = .returned (.float .f64 D) ∧ u = w') :
    Calls Try.prog 45 #[.float .f64 x, .int .i64 e] w fun e' w' => e' = .returned (.float .f64 D) ∧ w = w' := by
  have H := Lib.hid h
  clear h
  go_enter Try.func45, Try.ntmps45
  go_wp2_with (first | (go_at_call 53; refine (H.out _).mono ?_; rintro e w' ⟨rfl, rfl⟩))
  go_ret
  exact ⟨rfl, rfl⟩
end Go.Proofs.Ytlegkefonpiakaa
