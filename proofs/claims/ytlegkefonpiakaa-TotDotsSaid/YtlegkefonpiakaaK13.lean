/- Plain law: what Round computes bit by bit is the rounding to 53 bits. Conditions: 53 bits or more. -/
import Derived.Test.YtlegkefonpiakaaK12
namespace Go.Proofs.Ytlegkefonpiakaa
open Ieee (rne double)

/-- the top 53 bits, rounded half to even -/
theorem round_bits (u d : Nat) :
    rne u (d + 1) = u / 2 ^ (d + 1) + (if u / 2 ^ d % 2 = 1 ∧ (u / 2 ^ (d + 1) % 2 = 1 ∨ u % 2 ^ d ≠ 0) then 1 else 0) := by
  unfold rne
  have h1 := bit_next u d
  have hp := Nat.two_pow_pos d
  have hm := Nat.mod_lt u hp
  have h2 : (2 : Nat) ^ (d + 1) = 2 * 2 ^ d := by rw [Nat.pow_succ, Nat.mul_comm]
  have hb : u / 2 ^ d % 2 = 0 ∨ u / 2 ^ d % 2 = 1 := by omega
  congr 1
  generalize u / 2 ^ (d + 1) % 2 = o at *
  rw [h1, h2]
  clear h1 h2
  generalize u / 2 ^ d % 2 = b at *
  generalize u % 2 ^ d = r at *
  generalize 2 ^ d = P at *
  rcases hb with rfl | rfl
  · rw [if_neg (by omega), if_neg (by omega)]
  · by_cases h3 : o = 1 ∨ r ≠ 0
    · rw [if_pos (by omega), if_pos ⟨rfl, h3⟩]
    · rw [if_neg (by omega), if_neg (by omega)]
end Go.Proofs.Ytlegkefonpiakaa
