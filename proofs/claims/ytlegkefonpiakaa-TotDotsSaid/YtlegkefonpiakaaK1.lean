/- Plain law: a whole number in limbs of 64 bits, two's complement; carries and borrows. Conditions: as each says. -/
namespace Go.Proofs.Ytlegkefonpiakaa

/-- limb i of a whole number (below zero: two's complement) -/
def limb (v : Int) (i : Nat) : Nat := (v / 2 ^ (64 * i) % 18446744073709551616).toNat
def carryAt (v x : Int) (i : Nat) : Nat := ((v % 2 ^ (64 * i) + x % 2 ^ (64 * i)) / 2 ^ (64 * i)).toNat
def borrowAt (v x : Int) (i : Nat) : Nat := if v % 2 ^ (64 * i) < x % 2 ^ (64 * i) then 1 else 0
theorem pow_pos64 (i : Nat) : (0 : Int) < 2 ^ (64 * i) := Int.pow_pos (by omega)
theorem pow_next (i : Nat) : (2 : Int) ^ (64 * (i + 1)) = 2 ^ (64 * i) * 18446744073709551616 := by
  rw [show 64 * (i + 1) = 64 * i + 64 from by omega, Int.pow_add]; rfl
theorem limb_cast (v : Int) (i : Nat) : (limb v i : Int) = v / 2 ^ (64 * i) % 18446744073709551616 :=
  Int.toNat_of_nonneg (Int.emod_nonneg _ (by omega))
theorem limb_lt (v : Int) (i : Nat) : limb v i < 18446744073709551616 := by
  have h := limb_cast v i
  have := Int.emod_lt_of_pos (v / 2 ^ (64 * i)) (show (0 : Int) < 18446744073709551616 by omega)
  omega
/-- a sum's quotient: the quotients' sum and the carry -/
theorem div_sum (v x P : Int) (hP : 0 < P) : (v + x) / P = v / P + x / P + (v % P + x % P) / P := by
  have h1 := Int.emod_add_mul_ediv v P
  have h2 := Int.emod_add_mul_ediv x P
  have e : v + x = (v % P + x % P) + P * (v / P + x / P) := by rw [Int.mul_add]; omega
  rw [e, Int.add_mul_ediv_left _ _ (by omega)]
  rw [Int.add_comm]
theorem carry_bounds (v x P : Int) (hP : 0 < P) : 0 ≤ (v % P + x % P) / P ∧ (v % P + x % P) / P ≤ 1 := by
  have a := Int.emod_nonneg v (show P ≠ 0 by omega)
  have b := Int.emod_nonneg x (show P ≠ 0 by omega)
  have c := Int.emod_lt_of_pos v hP
  have d := Int.emod_lt_of_pos x hP
  constructor
  · exact Int.ediv_nonneg (by omega) (by omega)
  · have : (v % P + x % P) / P < 2 := by rw [Int.ediv_lt_iff_lt_mul hP]; omega
    omega
theorem carry_cast (v x : Int) (i : Nat) : (carryAt v x i : Int) = (v % 2 ^ (64 * i) + x % 2 ^ (64 * i)) / 2 ^ (64 * i) :=
  Int.toNat_of_nonneg (carry_bounds v x _ (pow_pos64 i)).1
theorem carry_le (v x : Int) (i : Nat) : carryAt v x i ≤ 1 := by
  have := carry_cast v x i
  have := (carry_bounds v x _ (pow_pos64 i)).2
  omega
theorem carry_zero (v x : Int) : carryAt v x 0 = 0 := by unfold carryAt; simp [Int.emod_one]
theorem emod_next (v : Int) (i : Nat) : v % 2 ^ (64 * (i + 1)) = v % 2 ^ (64 * i) + 2 ^ (64 * i) * (limb v i : Int) := by
  rw [pow_next, limb_cast]
  have hP := pow_pos64 i
  generalize (2 : Int) ^ (64 * i) = P at *
  have h1 := Int.emod_add_mul_ediv v (P * 18446744073709551616)
  have h2 := Int.emod_add_mul_ediv v P
  have h3 := Int.emod_add_mul_ediv (v / P) 18446744073709551616
  rw [← Int.ediv_ediv_of_nonneg (by omega)] at h1
  have h4 : P * (v / P) = P * (v / P % 18446744073709551616) + P * 18446744073709551616 * (v / P / 18446744073709551616) := by
    rw [Int.mul_assoc, ← Int.mul_add, h3]
  omega
theorem limb_add (v x : Int) (i : Nat) : limb (v + x) i = (limb v i + limb x i + carryAt v x i) % 18446744073709551616 := by
  have h1 := limb_cast (v + x) i
  have h2 := limb_cast v i
  have h3 := limb_cast x i
  have h4 := carry_cast v x i
  have h5 := div_sum v x _ (pow_pos64 i)
  rw [h5, ← h4] at h1
  generalize v / 2 ^ (64 * i) = a at *
  generalize x / 2 ^ (64 * i) = b at *
  omega
theorem carry_next (v x : Int) (i : Nat) : carryAt v x (i + 1) = (limb v i + limb x i + carryAt v x i) / 18446744073709551616 := by
  have h1 := carry_cast v x (i + 1)
  have h4 := carry_cast v x i
  rw [emod_next, emod_next, pow_next] at h1
  have hP := pow_pos64 i
  generalize (2 : Int) ^ (64 * i) = P at *
  have e : v % P + P * (limb v i : Int) + (x % P + P * (limb x i : Int)) = (v % P + x % P) + P * ((limb v i : Int) + (limb x i : Int)) := by rw [Int.mul_add]; omega
  rw [e, Int.mul_comm P 18446744073709551616, Int.mul_comm 18446744073709551616 P, ← Int.ediv_ediv_of_nonneg (by omega), Int.add_mul_ediv_left _ _ (by omega), ← h4] at h1
  omega
theorem borrow_zero (v x : Int) : borrowAt v x 0 = 0 := by unfold borrowAt; simp [Int.emod_one]
theorem borrow_le (v x : Int) (i : Nat) : borrowAt v x i ≤ 1 := by unfold borrowAt; split <;> omega
theorem div_diff (v x P : Int) (hP : 0 < P) : (v - x) / P = v / P - x / P - (if v % P < x % P then 1 else 0) := by
  have h1 := Int.emod_add_mul_ediv v P
  have h2 := Int.emod_add_mul_ediv x P
  have a := Int.emod_nonneg v (show P ≠ 0 by omega)
  have b := Int.emod_nonneg x (show P ≠ 0 by omega)
  have c := Int.emod_lt_of_pos v hP
  have d := Int.emod_lt_of_pos x hP
  have e : v - x = (v % P - x % P) + P * (v / P - x / P) := by rw [Int.mul_sub]; omega
  have e2 : (v - x) / P = (v % P - x % P) / P + (v / P - x / P) := by
    have := Int.add_mul_ediv_left (v % P - x % P) (v / P - x / P) (show P ≠ 0 by omega)
    rw [← e] at this; exact this
  rw [e2]
  split
  · have : (v % P - x % P) / P = -1 := by
      have h3 : (v % P - x % P + P * 1) / P = (v % P - x % P) / P + 1 := Int.add_mul_ediv_left _ _ (by omega)
      have h4 : (v % P - x % P + P * 1) / P = 0 := Int.ediv_eq_zero_of_lt (by omega) (by omega)
      omega
    omega
  · have : (v % P - x % P) / P = 0 := Int.ediv_eq_zero_of_lt (by omega) (by omega)
    omega
theorem limb_sub (v x : Int) (i : Nat) : limb (v - x) i = (limb v i + 18446744073709551616 - limb x i - borrowAt v x i) % 18446744073709551616 := by
  have h1 := limb_cast (v - x) i
  have h2 := limb_cast v i
  have h3 := limb_cast x i
  have h5 := div_diff v x _ (pow_pos64 i)
  have h6 := limb_lt x i
  have h7 := borrow_le v x i
  have h8 : (if v % 2 ^ (64 * i) < x % 2 ^ (64 * i) then (1 : Int) else 0) = (borrowAt v x i : Int) := by unfold borrowAt; split <;> rfl
  rw [h5, h8] at h1
  generalize v / 2 ^ (64 * i) = a at *
  generalize x / 2 ^ (64 * i) = b at *
  omega
theorem borrow_next (v x : Int) (i : Nat) : borrowAt v x (i + 1) = if limb v i < limb x i + borrowAt v x i then 1 else 0 := by
  have hP := pow_pos64 i
  have a := Int.emod_nonneg v (show (2 : Int) ^ (64 * i) ≠ 0 by omega)
  have b := Int.emod_nonneg x (show (2 : Int) ^ (64 * i) ≠ 0 by omega)
  have c := Int.emod_lt_of_pos v hP
  have d := Int.emod_lt_of_pos x hP
  have key : v % 2 ^ (64 * (i + 1)) < x % 2 ^ (64 * (i + 1)) ↔ limb v i < limb x i + borrowAt v x i := by
    rw [emod_next, emod_next]
    unfold borrowAt
    generalize (2 : Int) ^ (64 * i) = P at *
    generalize limb v i = s at *
    generalize limb x i = t at *
    rcases Nat.lt_trichotomy s t with h | h | h
    · have : P * ((s : Int) + 1) ≤ P * (t : Int) := Int.mul_le_mul_of_nonneg_left (by omega) (by omega)
      rw [Int.mul_add] at this
      constructor
      · intro _; split <;> omega
      · intro _; omega
    · subst h
      split <;> constructor <;> intro _ <;> omega
    · have : P * ((t : Int) + 1) ≤ P * (s : Int) := Int.mul_le_mul_of_nonneg_left (by omega) (by omega)
      rw [Int.mul_add] at this
      constructor
      · intro _; omega
      · intro _; split at * <;> omega
  unfold borrowAt
  by_cases h : limb v i < limb x i + (if v % 2 ^ (64 * i) < x % 2 ^ (64 * i) then 1 else 0)
  · rw [if_pos h, if_pos (key.2 h)]
  · rw [if_neg h, if_neg (fun h' => h (key.1 h'))]

/-- the two limbs of m * 2 ^ (64 w + k) -/
theorem limb_part {m w k : Nat} (hm : m < 18446744073709551616) (hk : k < 64) (i : Nat) :
    limb ((m * 2 ^ (64 * w + k) : Nat) : Int) i = if i = w then m * 2 ^ k % 18446744073709551616 else if i = w + 1 then m * 2 ^ k / 18446744073709551616 else 0 := by
  have h : limb ((m * 2 ^ (64 * w + k) : Nat) : Int) i = m * 2 ^ (64 * w + k) / 2 ^ (64 * i) % 18446744073709551616 := by
    have := limb_cast ((m * 2 ^ (64 * w + k) : Nat) : Int) i
    rw [show (2 : Int) ^ (64 * i) = ((2 ^ (64 * i) : Nat) : Int) from (Int.natCast_pow 2 (64 * i)).symm, ← Int.natCast_ediv] at this
    omega
  rw [h]
  have e : m * 2 ^ (64 * w + k) = m * 2 ^ k * 2 ^ (64 * w) := by rw [Nat.pow_add, Nat.mul_comm (2 ^ (64 * w)), Nat.mul_assoc]
  rw [e]
  have hlt : m * 2 ^ k < 18446744073709551616 * 18446744073709551616 := by
    have : 2 ^ k ≤ 2 ^ 63 := Nat.pow_le_pow_right (by omega) (by omega)
    have : m * 2 ^ k ≤ m * 2 ^ 63 := Nat.mul_le_mul_left _ this
    have e63 : (2 : Nat) ^ 63 = 9223372036854775808 := by decide
    rw [e63] at this
    omega
  generalize m * 2 ^ k = M at *
  rcases Nat.lt_trichotomy i w with h1 | h1 | h1
  · rw [if_neg (by omega), if_neg (by omega)]
    obtain ⟨d, rfl⟩ : ∃ d, w = i + 1 + d := ⟨w - (i + 1), by omega⟩
    rw [show 64 * (i + 1 + d) = 64 * i + (64 + 64 * d) from by omega, Nat.pow_add, Nat.pow_add, ← Nat.mul_assoc, Nat.mul_comm M, Nat.mul_assoc, Nat.mul_div_cancel_left _ (Nat.two_pow_pos _), ← Nat.mul_assoc, Nat.mul_comm M, Nat.mul_assoc]
    exact Nat.mul_mod_right _ _
  · subst h1
    rw [if_pos rfl, Nat.mul_div_cancel _ (Nat.two_pow_pos _)]
  · rw [if_neg (by omega)]
    obtain ⟨d, rfl⟩ : ∃ d, i = w + 1 + d := ⟨i - (w + 1), by omega⟩
    rw [show 64 * (w + 1 + d) = 64 * w + (64 + 64 * d) from by omega, Nat.pow_add, ← Nat.div_div_eq_div_mul, Nat.mul_div_cancel _ (Nat.two_pow_pos _), Nat.pow_add]
    have e64 : (2 : Nat) ^ 64 = 18446744073709551616 := by decide
    rw [e64]
    by_cases h2 : d = 0
    · subst h2
      rw [if_pos rfl, Nat.mul_zero, Nat.pow_zero, Nat.mul_one]
      exact Nat.mod_eq_of_lt (Nat.div_lt_of_lt_mul hlt)
    · rw [if_neg (by omega)]
      have : M / (18446744073709551616 * 2 ^ (64 * d)) = 0 := by
        apply Nat.div_eq_of_lt
        have : 2 ^ 64 ≤ 2 ^ (64 * d) := Nat.pow_le_pow_right (by omega) (by omega)
        rw [e64] at this
        exact Nat.lt_of_lt_of_le hlt (Nat.mul_le_mul_left _ this)
      rw [this]
end Go.Proofs.Ytlegkefonpiakaa
