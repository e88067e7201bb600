/- Plain facts: what Go's bit operations give at the masks of the float formats, said of naturals. Conditions: words of 64 (32) bits. -/
import Derived.Laws.Entries
import Derived.Test.YtlegkefonpiakaaFlA
namespace Go
/-- the lower 63 bits of a word: the rung of a float64's bits; of a float32's -/
def rg (x : Nat) : Nat := x % 9223372036854775808
def rg32 (x : Nat) : Nat := x % 2147483648
/-- the sign -/
def ng (x : Nat) : Bool := decide (9223372036854775808 ≤ x)
def ng32 (x : Nat) : Bool := decide (2147483648 ≤ x)

theorem rg_lt (x : Nat) : rg x < 9223372036854775808 := Nat.mod_lt _ (by omega)
theorem rg32_lt (x : Nat) : rg32 x < 2147483648 := Nat.mod_lt _ (by omega)
theorem rg_rg (x : Nat) : rg (rg x) = rg x := by unfold rg; omega
theorem rg_of_lt {x : Nat} (h : x < 9223372036854775808) : rg x = x := by unfold rg; omega
theorem ng_rg (x : Nat) : ng (rg x) = false := by unfold ng rg; simp; omega

theorem ofInt_nat (k n : Nat) : BitVec.ofInt k (n : Int) = BitVec.ofNat k n := by
  apply BitVec.eq_of_toNat_eq; simp

theorem wrap_u64_nat (n : Nat) (h : n < 18446744073709551616) : IntKind.u64.wrap (n : Int) = n := by
  simp [IntKind.wrap, IntKind.bits, IntKind.signed]; omega
theorem wrap_u32_nat (n : Nat) (h : n < 4294967296) : IntKind.u32.wrap (n : Int) = n := by
  simp [IntKind.wrap, IntKind.bits, IntKind.signed]; omega

theorem andNot_top (x : Nat) : bits .andNot .u64 (x : Int) 9223372036854775808 = (rg x : Int) := by
  unfold bits
  simp only []
  rw [show IntKind.u64.bits = 64 from rfl]
  have e : (~~~ BitVec.ofInt 64 9223372036854775808) = BitVec.ofNat 64 (2 ^ 63 - 1) := by decide
  rw [e, ofInt_nat, BitVec.toNat_and, BitVec.toNat_ofNat, BitVec.toNat_ofNat]
  rw [show (2 ^ 63 - 1) % 2 ^ 64 = 2 ^ 63 - 1 from by decide, Nat.and_two_pow_sub_one_eq_mod]
  rw [wrap_u64_nat _ (by omega)]
  unfold rg; omega

theorem andNot_top32 (x : Nat) : bits .andNot .u32 (x : Int) 2147483648 = (rg32 x : Int) := by
  unfold bits
  simp only []
  rw [show IntKind.u32.bits = 32 from rfl]
  have e : (~~~ BitVec.ofInt 32 2147483648) = BitVec.ofNat 32 (2 ^ 31 - 1) := by decide
  rw [e, ofInt_nat, BitVec.toNat_and, BitVec.toNat_ofNat, BitVec.toNat_ofNat]
  rw [show (2 ^ 31 - 1) % 2 ^ 32 = 2 ^ 31 - 1 from by decide, Nat.and_two_pow_sub_one_eq_mod]
  rw [wrap_u32_nat _ (by omega)]
  unfold rg32; omega

/-- the next, the previous word (wrapping); the top bit set; all bits turned; the sign turned -/
def upW (x : Nat) : Nat := (x + 1) % 18446744073709551616
def downW (x : Nat) : Nat := (x + 18446744073709551615) % 18446744073709551616
def topW (x : Nat) : Nat := rg x + 9223372036854775808
def notW (x : Nat) : Nat := 18446744073709551615 - x % 18446744073709551616
def negW (x : Nat) : Nat := if x < 9223372036854775808 then x + 9223372036854775808 else x - 9223372036854775808

theorem wrap_up (x : Nat) : IntKind.u64.wrap ((x : Int) + 1) = (upW x : Int) := by
  unfold upW; simp [IntKind.wrap, IntKind.bits, IntKind.signed]
theorem wrap_down (x : Nat) : IntKind.u64.wrap ((x : Int) - 1) = (downW x : Int) := by
  unfold downW; simp [IntKind.wrap, IntKind.bits, IntKind.signed]; omega

theorem or_top (x : Nat) : bits .or .u64 (x : Int) 9223372036854775808 = (topW x : Int) := by
  unfold bits
  simp only []
  rw [show IntKind.u64.bits = 64 from rfl]
  rw [show BitVec.ofInt 64 9223372036854775808 = BitVec.ofNat 64 (2 ^ 63) from by decide, ofInt_nat, BitVec.toNat_or, BitVec.toNat_ofNat, BitVec.toNat_ofNat]
  rw [show 2 ^ 63 % 2 ^ 64 = 2 ^ 63 from by decide]
  have hx : x % 2 ^ 64 < 2 ^ 64 := Nat.mod_lt _ (by decide)
  have e : x % 2 ^ 64 ||| 2 ^ 63 = topW x := by
    have h1 := Nat.or_mod_two_pow (a := x % 2 ^ 64) (b := 2 ^ 63) (n := 63)
    have h2 := Nat.or_div_two_pow (a := x % 2 ^ 64) (b := 2 ^ 63) (n := 63)
    rw [Nat.mod_self, Nat.or_zero] at h1
    rw [Nat.div_self (Nat.two_pow_pos 63)] at h2
    have h3 := Nat.div_add_mod (x % 2 ^ 64 ||| 2 ^ 63) (2 ^ 63)
    have h4 : x % 2 ^ 64 / 2 ^ 63 = 0 ∨ x % 2 ^ 64 / 2 ^ 63 = 1 := by omega
    have h5 : x % 2 ^ 64 / 2 ^ 63 ||| 1 = 1 := by rcases h4 with h | h <;> rw [h] <;> decide
    rw [h1, h2, h5] at h3
    unfold topW rg; omega
  rw [e]
  have := rg_lt x
  exact wrap_u64_nat _ (by unfold topW; omega)

theorem xor_all (x : Nat) : bits .xor .u64 IntKind.u64.max (x : Int) = (notW x : Int) := by
  unfold bits
  simp only []
  rw [show IntKind.u64.bits = 64 from rfl]
  have e : (BitVec.ofInt 64 IntKind.u64.max ^^^ BitVec.ofInt 64 (x : Int)) = ~~~ BitVec.ofNat 64 x := by
    rw [ofInt_nat, show BitVec.ofInt 64 IntKind.u64.max = BitVec.allOnes 64 from by decide, BitVec.allOnes_xor]
  rw [e, BitVec.toNat_not, BitVec.toNat_ofNat]
  have hx : x % 2 ^ 64 < 2 ^ 64 := Nat.mod_lt _ (by decide)
  rw [wrap_u64_nat _ (by omega)]
  unfold notW; omega

theorem negFloat_eq {x : Nat} (h : x < 18446744073709551616) : Op.negFloat .f64 x = negW x := by
  show x ^^^ 2 ^ 63 = negW x
  have h1 := Nat.xor_mod_two_pow (a := x) (b := 2 ^ 63) (n := 63)
  have h2 := Nat.xor_div_two_pow (a := x) (b := 2 ^ 63) (n := 63)
  rw [Nat.mod_self, Nat.xor_zero] at h1
  rw [Nat.div_self (Nat.two_pow_pos 63)] at h2
  have h3 := Nat.div_add_mod (x ^^^ 2 ^ 63) (2 ^ 63)
  rw [h1, h2] at h3
  unfold negW
  by_cases h4 : x < 9223372036854775808
  · rw [if_pos h4]
    have : x / 2 ^ 63 = 0 := by omega
    rw [this, show 0 ^^^ 1 = 1 from by decide] at h3
    omega
  · rw [if_neg h4]
    have : x / 2 ^ 63 = 1 := by omega
    rw [this, show 1 ^^^ 1 = 0 from by decide] at h3
    omega

theorem rg_negW {x : Nat} : rg (negW x) = rg x := by unfold negW rg; split <;> omega
theorem ng_negW {x : Nat} (h : x < 18446744073709551616) : ng (negW x) = !ng x := by
  unfold negW ng
  by_cases h' : x < 9223372036854775808
  · rw [if_pos h', decide_eq_true (by omega), decide_eq_false (by omega)]; rfl
  · rw [if_neg h', decide_eq_false (by omega), decide_eq_true (by omega)]; rfl
theorem negW_lt {x : Nat} (h : x < 18446744073709551616) : negW x < 18446744073709551616 := by unfold negW; split <;> omega
theorem negW_negW {x : Nat} (h : x < 18446744073709551616) : negW (negW x) = x := by unfold negW; split <;> split <;> omega
theorem word_of {x : Nat} (h : x < 18446744073709551616) : x = rg x + (if ng x then 9223372036854775808 else 0) := by
  unfold rg ng; by_cases h' : 9223372036854775808 ≤ x <;> simp [h'] <;> omega
end Go
