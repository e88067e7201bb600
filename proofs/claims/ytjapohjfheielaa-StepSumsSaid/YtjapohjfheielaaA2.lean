/- Walks: the number below, the square root, the nearest whole number. Conditions: finite numbers up to 2^51. -/
import Derived.Test.YtjapohjfheielaaA1
namespace Go.Proofs.Ytjapohjfheielaa
open Go.RowKit
open Ieee (FinW V dR big double wordOf deepD)

def halfW : Nat := 4602678819172646912
def hU : Int := V halfW
theorem hU_eq : V halfW = hU := rfl
theorem fin_half : FinW halfW := by refine ⟨by decide, ?_⟩; decide
theorem hU_two : 2 * hU = 2 ^ deepD := by decide +kernel
theorem U_pos : (0 : Int) < 2 ^ deepD := Int.pow_pos (by omega)
theorem hU_pos : 0 < hU := by have := hU_two; have := U_pos; omega
theorem big_U : 18014398509481984 * 2 ^ deepD ≤ big := by decide +kernel
def cN : Nat := 4503599627370496
/-- the nearest whole number of a number of units, halves away from 0 -/
def rN (z : Int) : Int := if z < 0 then -(dR (hU - z) / 2 ^ deepD) else dR (z + hU) / 2 ^ deepD
theorem rN_neg (z : Int) : rN (-z) = -rN z := by
  unfold rN
  have hp := U_pos
  rcases Int.lt_trichotomy z 0 with h | h | h
  · rw [if_neg (by omega), if_pos h, Int.neg_neg, show -z + hU = hU - z from by omega]
  · subst h
    rw [Int.neg_zero, if_neg (by omega), Int.zero_add]
    have h1 : dR hU = hU := double.rnd_of_fits Ieee.hp52 Ieee.V_fits
    have h2 := hU_two
    have h3 := hU_pos
    rw [h1, Int.ediv_eq_zero_of_lt (by omega) (by omega)]; rfl
  · rw [if_pos (by omega), if_neg (by omega), show hU - -z = z + hU from by omega]
theorem rN_zero : rN 0 = 0 := by have := rN_neg 0; rw [Int.neg_zero] at this; omega
theorem rN_le {z : Int} {B : Nat} (h : z.natAbs ≤ B * 2 ^ deepD) : (rN z).natAbs ≤ 2 * B + 1 := by
  have key : ∀ y : Int, 0 ≤ y → y.natAbs ≤ B * 2 ^ deepD → (dR (y + hU) / 2 ^ deepD).natAbs ≤ 2 * B + 1 := by
    intro y hy0 hy
    have h1 := hU_two
    have hp := U_pos
    have h2 := dR_le (y + hU)
    have h3 := hU_pos
    have h4 : 0 ≤ dR (y + hU) := by
      have := dR_mono (a := 0) (b := y + hU) (by omega)
      rwa [dR_zero] at this
    rw [← Ieee.pow_cast] at h1 hp ⊢
    generalize 2 ^ deepD = U at *
    generalize dR (y + hU) = d at *
    have h5 : 0 ≤ d / (U : Int) := Int.ediv_nonneg h4 (by omega)
    have h6 : d / (U : Int) ≤ 2 * B + 1 := by
      have : d / (U : Int) < 2 * B + 1 + 1 := by
        rw [Int.ediv_lt_iff_lt_mul hp]
        have e : (2 * (B : Int) + 1 + 1) * (U : Int) = 2 * (B * U) + 2 * U := by rw [Int.add_mul, Int.add_mul, Int.mul_assoc]; omega
        have e2 : ((B * U : Nat) : Int) = (B : Int) * U := Int.natCast_mul ..
        rw [e, ← e2]; omega
      omega
    omega
  unfold rN
  by_cases h0 : z < 0
  · rw [if_pos h0, Int.natAbs_neg]
    have := key (-z) (by omega) (by omega)
    rwa [show -z + hU = hU - z from by omega] at this
  · rw [if_neg h0]; exact key z (by omega) h

attribute [local irreducible] Ieee.V Ieee.Format.rnd fv Ieee.big Ieee.deepD flW sqW iw hU halfW rN

theorem call36 {y : Nat} (hy : FinW y) (w : World) : (callFunc 36 #[.float .f64 y]).run Try.prog w = .ok (.value (.float .f64 (flW y))) w := by
  rw [run_callFunc_extern Try.func36 (by kernel_rfl) (by kernel_rfl) (by kernel_rfl) (e := Extern.MathFloor.toIntegral "math.archFloor" .down) (by kernel_rfl)]
  have h : FloatKind.f64.decode y = .number (double.neg y) (Ieee.mg (double.rung y)) (double.leastPlace + (Ieee.pl (double.rung y) : Nat)) := Ieee.read_mg hy.2
  have h2 : flW y = FloatKind.f64.encode ((FloatKind.f64.decode y).integral .down) := by unfold flW; rfl
  have e1 : (Extern.MathFloor.toIntegral "math.archFloor" .down #[.float .f64 y]).run Try.prog w = .ok (.float .f64 (flW y)) w := by
    delta Extern.MathFloor.toIntegral Extern.MathFloor.toIntegral.match_2
    simp [Extern.MathFloor.toIntegral._sparseCasesOn_2, Extern.MathFloor.toIntegral._sparseCasesOn_3, Array.getLit, h, h2]
  rw [e1]; rfl
theorem floor_any {y : Nat} (hy : FinW y) (w : World) : Calls Try.prog 35 #[.float .f64 y] w fun e w' => e = .returned (.float .f64 (flW y)) ∧ w = w' := by
  have e := fun u => call36 hy u
  clear hy
  go_enter Try.func35, Try.ntmps35
  go_wp2
  go_ret
  exact ⟨rfl, rfl⟩
theorem call30 {y r : Nat} (h : double.sqrt y = some r) (w : World) : (callFunc 30 #[.float .f64 y]).run Try.prog w = .ok (.value (.float .f64 r)) w := by
  rw [run_callFunc_extern Try.func30 (by kernel_rfl) (by kernel_rfl) (by kernel_rfl) (e := Extern.MathSqrt.sqrt) (by kernel_rfl)]
  have h' : FloatKind.f64.format.sqrt y = some r := h
  have e1 : (Extern.MathSqrt.sqrt #[.float .f64 y]).run Try.prog w = .ok (.float .f64 r) w := by
    delta Extern.MathSqrt.sqrt Extern.MathSqrt.sqrt.match_2
    simp [Extern.MathSqrt.sqrt._sparseCasesOn_2, Extern.MathSqrt.sqrt._sparseCasesOn_3, Array.getLit, h']
  rw [e1]; rfl
theorem sqrt_any {y r : Nat} (h : double.sqrt y = some r) (w : World) : Calls Try.prog 24 #[.float .f64 y] w fun e w' => e = .returned (.float .f64 r) ∧ w = w' := by
  have e := fun u => call30 h u
  clear h
  go_enter Try.func24, Try.ntmps24
  go_wp2
  go_ret
  exact ⟨rfl, rfl⟩

theorem round_facts {z : Int} (hz0 : 0 ≤ z) (hz : z.natAbs ≤ 2251799813685248 * 2 ^ deepD) : (z + hU).natAbs ≤ big ∧ (dR (z + hU)).natAbs ≤ 4503599627370497 * 2 ^ deepD := by
  have h1 := hU_two
  have h2 := hU_pos
  have h3 := big_U
  have h4 := dR_le (z + hU)
  rw [← Ieee.pow_cast] at h1
  generalize 2 ^ deepD = U at *
  generalize big = G at *
  omega

end Go.Proofs.Ytjapohjfheielaa
