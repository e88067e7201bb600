/- Plain law: the word of a whole number of 53 bits. Conditions: 2^52 ≤ n ≤ 2^53. -/
import Derived.Test.YtlegkefonpiakaaK13
import Derived.Test.YtlegkefonpiakaaFlJ
namespace Go.Proofs.Ytlegkefonpiakaa
open Ieee (rne double)
open Go.RowKit

theorem nr_whole {n k : Nat} (h1 : 4503599627370496 ≤ n) (h2 : n ≤ 9007199254740992) : double.nr (n * 2 ^ k) = n + 4503599627370496 * k := by
  have hB : double.binade = 4503599627370496 := binade_d
  have hu : double.unit (n + 4503599627370496 * k) = n * 2 ^ k := by
    unfold Ieee.Format.unit
    rw [hB, if_neg (by omega)]
    rcases Nat.lt_or_eq_of_le h2 with h | h
    · have e1 : (n + 4503599627370496 * k) % 4503599627370496 = n - 4503599627370496 := by omega
      have e2 : (n + 4503599627370496 * k) / 4503599627370496 - 1 = k := by omega
      rw [e1, e2, show 4503599627370496 + (n - 4503599627370496) = n from by omega]
    · subst h
      have e1 : (9007199254740992 + 4503599627370496 * k) % 4503599627370496 = 0 := by omega
      have e2 : (9007199254740992 + 4503599627370496 * k) / 4503599627370496 - 1 = k + 1 := by omega
      rw [e1, e2, Nat.pow_succ, Nat.add_zero, Nat.mul_comm (2 ^ k) 2, ← Nat.mul_assoc]
  exact double.nr_of_unit Ieee.hp52 hu

theorem iw_word {n : Nat} (h1 : 4503599627370496 ≤ n) (h2 : n ≤ 9007199254740992) : floatOfInt .f64 (n : Int) = n + 4503599627370496 * 1074 := by
  have hb : (n : Int).natAbs ≤ 2 ^ Ieee.wideE := by
    have : (9007199254740992 : Nat) ≤ 2 ^ Ieee.wideE := by
      rw [show (9007199254740992 : Nat) = 2 ^ 53 from by decide]; exact Nat.pow_le_pow_right (by omega) Ieee.wide_53
    omega
  have h := Ieee.ofInt_word hb
  have e : floatOfInt .f64 (n : Int) = double.write (.number (decide ((n : Int) < 0)) (n : Int).natAbs 0) := rfl
  rw [e, h]
  unfold Ieee.wordOf
  have hp : ¬ ((n : Int) * 2 ^ Ieee.deepD < 0) := Int.not_lt.2 (Int.mul_nonneg (by omega) (Int.pow_nonneg (by omega)))
  rw [decide_eq_false hp, Int.natAbs_mul, Int.natAbs_pow, Int.natAbs_natCast, show (2 : Int).natAbs = 2 from rfl, nr_whole h1 h2]
  rfl
end Go.Proofs.Ytlegkefonpiakaa
