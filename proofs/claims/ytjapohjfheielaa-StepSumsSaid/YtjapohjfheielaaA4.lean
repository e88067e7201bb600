/- Plain law: how far a mass drifts in half a step, in whole numbers. Conditions: masses on the grid. -/
import Derived.Test.YtjapohjfheielaaA3
import Derived.Test.YtjapohjfheielaaB1
namespace Go.Proofs.Ytjapohjfheielaa
open Go.RowKit
open Ieee (FinW V dR big double wordOf deepD)
attribute [local irreducible] Ieee.V Ieee.Format.rnd fv Ieee.big Ieee.deepD flW sqW hU

def rd (p m : Int) : Int := rN (V (fv .quo (iw p) (iw (2 * m))))
theorem drift_word {p m : Int} (hp : -1125899906842624 ≤ p ∧ p ≤ 1125899906842624) (hm : 1 ≤ m ∧ m ≤ 1048576) :
    FOk .quo (iw p) (iw (2 * m)) ∧ FinW (fv .quo (iw p) (iw (2 * m))) ∧ (V (fv .quo (iw p) (iw (2 * m)))).natAbs ≤ 2251799813685247 * 2 ^ deepD ∧ rd (-p) m = -rd p m := by
  obtain ⟨a1, a2⟩ := iw_V (n := p) (by omega)
  obtain ⟨b1, b2⟩ := iw_V (n := 2 * m) (by omega)
  obtain ⟨c1, c2⟩ := iw_V (n := -p) (by omega)
  have hU := Nat.two_pow_pos deepD
  have h0 : V (iw (2 * m)) ≠ 0 := by
    rw [b2, ← Ieee.pow_cast]
    intro e
    rcases Int.mul_eq_zero.1 e with h | h <;> omega
  have hle : (V (iw p)).natAbs ≤ 2 ^ 50 * (V (iw (2 * m))).natAbs := by
    rw [a2, b2, Int.natAbs_mul, Int.natAbs_mul, ← Nat.mul_assoc]
    apply Nat.mul_le_mul_right
    have : (2 : Nat) ^ 50 = 1125899906842624 := by decide
    rw [this]
    have : 1 ≤ (2 * m).natAbs := by omega
    omega
  obtain ⟨d1, d2, d3, d4⟩ := w_div a1 b1 (b := 50) (by omega) h0 hle
  refine ⟨d1, d2, ?_, ?_⟩
  · refine Nat.le_trans d3 ?_
    rw [Nat.pow_add]
    exact Nat.mul_le_mul_right _ (by decide)
  · unfold rd
    rw [d4 (iw (-p)) c1 (by rw [c2, a2, Int.neg_mul]), rN_neg]
theorem rd_le {p m : Int} (hp : -1125899906842624 ≤ p ∧ p ≤ 1125899906842624) (hm : 1 ≤ m ∧ m ≤ 1048576) : (rd p m).natAbs ≤ 4503599627370495 := by
  obtain ⟨_, _, h, _⟩ := drift_word hp hm
  have := rN_le h
  unfold rd; omega
end Go.Proofs.Ytjapohjfheielaa
