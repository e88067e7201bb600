/- Walks: math.Ldexp at a whole number of 53 bits, the result normal. Conditions: 2^52 ≤ n ≤ 2^53; the exponent as said. -/
import Derived.Test.YtlegkefonpiakaaK8
namespace Go.Proofs.Ytlegkefonpiakaa
open Go.RowKit

/-- the word of n's power of two: the fraction's and the exponent's bits -/
theorem abs48 (x : Nat) (w : World) : Calls Try.prog 48 #[.float .f64 x] w fun e w' => e = .returned (.float .f64 (rg x)) ∧ w = w' := abs_core rg andNot_top x w
/-- a word that is greater than the greatest finite one, not a number, less than the smallest normal one: none of these -/
theorem isInf_any (x : Nat) (w : World) (h : (o64 (rg x) 9218868437227405311 == some .gt) = false) :
    Calls Try.prog 56 #[.float .f64 x, .int .i64 0] w fun e w' => e = .returned (.bool false) ∧ w = w' := by
  have HA := Lib.hid (fun u => abs48 x u)
  obtain ⟨r, hr⟩ : ∃ r, rg x = r := ⟨_, rfl⟩
  rw [hr] at h HA
  clear hr
  go_enter Try.func56, Try.ntmps56
  go_wp2_with (first | (go_at_call 48; refine (HA.out _).mono ?_; rintro e w' ⟨rfl, rfl⟩))
  go_ret
  exact ⟨rfl, rfl⟩
theorem isNaN_any (x : Nat) (w : World) (h : (o64 x x != some .eq) = false) :
    Calls Try.prog 57 #[.float .f64 x] w fun e w' => e = .returned (.bool false) ∧ w = w' := by
  have h2 : (FloatKind.f64.format.order x x != some Ordering.eq) = false := h
  go_enter Try.func57, Try.ntmps57
  go_wp2
  go_ret
  exact ⟨rfl, rfl⟩
/-- Ldexp's word: the fraction's bits under a new exponent -/
def ldW (x e : Nat) : Nat := x % 4503599627370496 + 4503599627370496 * e
theorem normalize_any (x : Nat) (w : World) (h : (o64 (rg x) 4503599627370496 == some .lt) = false) :
    Calls Try.prog 58 #[.float .f64 x] w fun e w' => e = .returned (.tuple #[.float .f64 x, .int .i64 0]) ∧ w = w' := by
  have HA := Lib.hid (fun u => abs48 x u)
  obtain ⟨r, hr⟩ : ∃ r, rg x = r := ⟨_, rfl⟩
  rw [hr] at h HA
  clear hr
  go_enter Try.func58, Try.ntmps58
  go_wp2_with (first | (go_at_call 48; refine (HA.out _).mono ?_; rintro e w' ⟨rfl, rfl⟩))
  go_ret2
  exact ⟨rfl, rfl⟩
end Go.Proofs.Ytlegkefonpiakaa
