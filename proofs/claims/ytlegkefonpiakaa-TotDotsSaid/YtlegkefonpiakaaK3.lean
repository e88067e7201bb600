/- Walks: a word's whole number and exponent; 64 by 64 bits. Conditions: none. -/
import Derived.Test.YtlegkefonpiakaaK2
namespace Go
theorem and_low52 (x : Nat) : bits .and .u64 (x : Int) 4503599627370495 = ((x % 4503599627370496 : Nat) : Int) := by
  unfold bits
  simp only []
  rw [show IntKind.u64.bits = 64 from rfl]
  have e : BitVec.ofInt 64 4503599627370495 = BitVec.ofNat 64 (2 ^ 52 - 1) := by decide
  rw [e, ofInt_nat, BitVec.toNat_and, BitVec.toNat_ofNat, BitVec.toNat_ofNat]
  rw [show (2 ^ 52 - 1) % 2 ^ 64 = 2 ^ 52 - 1 from by decide, Nat.and_two_pow_sub_one_eq_mod]
  rw [wrap_u64_nat _ (by omega)]
  omega
theorem and_low32n (x : Nat) : bits .and .u64 (x : Int) 4294967295 = ((x % 4294967296 : Nat) : Int) := by
  unfold bits
  simp only []
  rw [show IntKind.u64.bits = 64 from rfl]
  have e : BitVec.ofInt 64 4294967295 = BitVec.ofNat 64 (2 ^ 32 - 1) := by decide
  rw [e, ofInt_nat, BitVec.toNat_and, BitVec.toNat_ofNat, BitVec.toNat_ofNat]
  rw [show (2 ^ 32 - 1) % 2 ^ 64 = 2 ^ 32 - 1 from by decide, Nat.and_two_pow_sub_one_eq_mod]
  rw [wrap_u64_nat _ (by omega)]
  omega
theorem and_one (x : Nat) : bits .and .u64 (x : Int) 1 = ((x % 2 : Nat) : Int) := by
  unfold bits
  simp only []
  rw [show IntKind.u64.bits = 64 from rfl]
  have e : BitVec.ofInt 64 1 = BitVec.ofNat 64 (2 ^ 1 - 1) := by decide
  rw [e, ofInt_nat, BitVec.toNat_and, BitVec.toNat_ofNat, BitVec.toNat_ofNat]
  rw [show (2 ^ 1 - 1) % 2 ^ 64 = 2 ^ 1 - 1 from by decide, Nat.and_two_pow_sub_one_eq_mod]
  rw [wrap_u64_nat _ (by omega)]
  omega
theorem or_52 (y : Nat) (h : y < 4503599627370496) : bits .or .u64 (y : Int) 4503599627370496 = ((4503599627370496 + y : Nat) : Int) := by
  unfold bits
  simp only []
  rw [show IntKind.u64.bits = 64 from rfl]
  have e : BitVec.ofInt 64 4503599627370496 = BitVec.ofNat 64 (2 ^ 52) := by decide
  rw [e, ofInt_nat, BitVec.toNat_or, BitVec.toNat_ofNat, BitVec.toNat_ofNat]
  rw [show (2 ^ 52) % 2 ^ 64 = 2 ^ 52 from by decide, Nat.mod_eq_of_lt (by omega), Nat.or_comm]
  have h2 := Nat.two_pow_add_eq_or_of_lt (i := 52) (b := y) h 1
  rw [Nat.mul_one] at h2
  rw [← h2, wrap_u64_nat _ (by omega)]
end Go
namespace Go.Proofs.Ytlegkefonpiakaa
open Go.RowKit

/-- a magnitude's whole number and exponent -/
def mM (r : Nat) : Nat := if r < 4503599627370496 then r else 4503599627370496 + r % 4503599627370496
def mE (r : Nat) : Int := if r < 4503599627370496 then -1074 else (r / 4503599627370496 : Nat) - 1075
set_option maxRecDepth 20000 in
theorem mant_any (x : Nat) (w : World) : Calls Try.prog 46 #[.float .f64 x] w fun e w' => e = .returned (.tuple #[.int .u64 (mM (rg x) : Int), .int .i64 (mE (rg x))]) ∧ w = w' := by
  have e26 := fun u => call26 x u
  have eb := andNot_top x
  have hlt := rg_lt x
  obtain ⟨r, hr⟩ : ∃ r, rg x = r := ⟨_, rfl⟩
  rw [hr] at eb hlt ⊢
  clear hr
  have ea := and_low52 r
  have eo := or_52 (r % 4503599627370496) (Nat.mod_lt _ (by omega))
  have hs1 : (r : Int) / 2 ^ 52 = ((r / 4503599627370496 : Nat) : Int) := by omega
  have hs2 : (r : Int) / 4503599627370496 = ((r / 4503599627370496 : Nat) : Int) := by omega
  by_cases h : r < 4503599627370496
  · have h1 : mM r = r := if_pos h
    have h2 : mE r = -1074 := if_pos h
    have h3 : r / 4503599627370496 = 0 := by omega
    rw [h1, h2]
    rw [h3] at hs1 hs2
    clear h1 h2 h3 h ea eo hlt
    go_enter Try.func46, Try.ntmps46
    go_wp2
    go_ret2
    exact ⟨rfl, rfl⟩
  · have h1 : mM r = 4503599627370496 + r % 4503599627370496 := if_neg h
    have h2 : mE r = ((r / 4503599627370496 : Nat) : Int) - 1075 := if_neg h
    have h3 : 0 < r / 4503599627370496 := by omega
    have h4 : r / 4503599627370496 < 2048 := by omega
    rw [h1, h2]
    clear h1 h2 h hlt
    obtain ⟨q, hq⟩ : ∃ q, r / 4503599627370496 = q := ⟨_, rfl⟩
    rw [hq] at hs1 hs2 h3 h4 ⊢
    obtain ⟨s, hs⟩ : ∃ s, r % 4503599627370496 = s := ⟨_, rfl⟩
    rw [hs] at ea eo ⊢
    obtain ⟨t, ht⟩ : ∃ t, 4503599627370496 + s = t := ⟨_, rfl⟩
    rw [ht] at eo ⊢
    clear hq hs ht
    have h5 : (0 : Int) < (q : Int) := by omega
    have h6 : (q : Int) < 2048 := by omega
    go_enter Try.func46, Try.ntmps46
    go_wp2
    go_ret2
    exact ⟨rfl, rfl⟩
end Go.Proofs.Ytlegkefonpiakaa
