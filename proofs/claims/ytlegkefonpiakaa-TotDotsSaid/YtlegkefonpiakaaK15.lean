/- Plain law: the word of a rounded sum. Conditions: 53 bits or more. -/
import Derived.Test.YtlegkefonpiakaaK14
namespace Go.Proofs.Ytlegkefonpiakaa
open Ieee (rne double)
open Go.RowKit

theorem nr_top {u H : Nat} (h1 : 2 ^ H ≤ u) (h2 : u < 2 ^ (H + 1)) (hH : 53 ≤ H) : double.nr (u * 2 ^ 50) = rne u (H - 52) + 4503599627370496 * (H - 2) := by
  have hu : u * 2 ^ 50 ≠ 0 := by
    have := Nat.two_pow_pos H
    have := Nat.two_pow_pos 50
    exact Nat.ne_of_gt (Nat.mul_pos (by omega) this)
  have hl : (u * 2 ^ 50).log2 = H + 50 := by
    have a : H + 50 ≤ (u * 2 ^ 50).log2 := (Nat.le_log2 hu).2 (by rw [Nat.pow_add]; exact Nat.mul_le_mul_right _ h1)
    have b : (u * 2 ^ 50).log2 < H + 1 + 50 := (Nat.log2_lt hu).2 (by rw [Nat.pow_add]; exact Nat.mul_lt_mul_of_pos_right h2 (Nat.two_pow_pos _))
    omega
  have hf : double.fractionBits = 52 := by decide
  unfold Ieee.Format.nr
  rw [hl, hf, binade_d, show H + 50 - 52 = H - 2 from by omega]
  have e : rne (u * 2 ^ 50) (H - 2) = rne u (H - 52) := by
    rw [show H - 2 = H - 52 + 50 from by omega]; exact Ieee.rne_scale _ _ _
  rw [e, Nat.add_comm, Nat.mul_comm]

theorem ldW_whole {n H : Nat} : ldW (n + 4503599627370496 * 1074) (H - 2 + n / 4503599627370496) = n + 4503599627370496 * (H - 2) := by
  unfold ldW
  omega
end Go.Proofs.Ytlegkefonpiakaa
