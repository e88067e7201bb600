/- Walks: math.ldexp where the result is normal. Conditions: as the sentence says. -/
import Derived.Test.YtlegkefonpiakaaK10
namespace Go
theorem and_2047 (q : Nat) (h : q < 2048) : bits .and .i64 (q : Int) 2047 = (q : Int) := by
  unfold bits
  simp only []
  rw [show IntKind.i64.bits = 64 from rfl]
  have e : BitVec.ofInt 64 2047 = BitVec.ofNat 64 (2 ^ 11 - 1) := by decide
  rw [e, ofInt_nat, BitVec.toNat_and, BitVec.toNat_ofNat, BitVec.toNat_ofNat]
  rw [show (2 ^ 11 - 1) % 2 ^ 64 = 2 ^ 11 - 1 from by decide, Nat.and_two_pow_sub_one_eq_mod]
  rw [Nat.mod_eq_of_lt (a := q) (by omega), Nat.mod_eq_of_lt (a := q) (by omega)]
  simp [IntKind.wrap, IntKind.bits, IntKind.signed]
  omega
theorem andNot_exp (x : Nat) (h : x < 9223372036854775808) : bits .andNot .u64 (x : Int) 9218868437227405312 = ((x % 4503599627370496 : Nat) : Int) := by
  unfold bits
  simp only []
  rw [show IntKind.u64.bits = 64 from rfl]
  have e : (~~~ BitVec.ofInt 64 9218868437227405312) = BitVec.ofNat 64 (2 ^ 63 + (2 ^ 52 - 1)) := by decide
  rw [e, ofInt_nat, BitVec.toNat_and, BitVec.toNat_ofNat, BitVec.toNat_ofNat]
  rw [show (2 ^ 63 + (2 ^ 52 - 1)) % 2 ^ 64 = 2 ^ 63 + (2 ^ 52 - 1) from by decide, Nat.mod_eq_of_lt (by omega)]
  have h1 : 2 ^ 63 + (2 ^ 52 - 1) = 2 ^ 63 * 1 ||| (2 ^ 52 - 1) := by decide
  have h2 : x &&& (2 ^ 63 * 1) = 0 := by
    apply Nat.eq_of_testBit_eq
    intro i
    rw [Nat.mul_one, Nat.testBit_and, Nat.testBit_two_pow, Nat.zero_testBit]
    by_cases hi : 63 = i
    · subst hi; rw [Nat.testBit_lt_two_pow (by omega)]; rfl
    · simp [hi]
  rw [h1, Nat.and_or_distrib_left, h2, Nat.zero_or, Nat.and_two_pow_sub_one_eq_mod, wrap_u64_nat _ (by omega)]
theorem or_exp (f E : Nat) (hf : f < 4503599627370496) (hE : E < 2048) : bits .or .u64 (f : Int) ((4503599627370496 * E : Nat) : Int) = ((f + 4503599627370496 * E : Nat) : Int) := by
  unfold bits
  simp only []
  rw [show IntKind.u64.bits = 64 from rfl]
  rw [ofInt_nat, ofInt_nat, BitVec.toNat_or, BitVec.toNat_ofNat, BitVec.toNat_ofNat]
  rw [Nat.mod_eq_of_lt (by omega), Nat.mod_eq_of_lt (by omega), Nat.or_comm]
  have h2 := Nat.two_pow_add_eq_or_of_lt (i := 52) (b := f) hf E
  have e52 : (2 : Nat) ^ 52 = 4503599627370496 := by decide
  rw [e52] at h2
  rw [← h2, wrap_u64_nat _ (by omega)]
  omega
end Go
namespace Go.Proofs.Ytlegkefonpiakaa
open Go.RowKit

set_option maxRecDepth 20000 in
theorem ldexp_any (x E : Nat) (e : Int) (w : World) (hx : x < 9223372036854775808) (h0 : (o64 x 0 == some .eq) = false) (h1 : (o64 (rg x) 9218868437227405311 == some .gt) = false) (h2 : (o64 x x != some .eq) = false)
    (h3 : (o64 (rg x) 4503599627370496 == some .lt) = false) (hE : e + ((x / 4503599627370496 : Nat) : Int) = (E : Int)) (hE1 : 1 ≤ E) (hE2 : E ≤ 2046) (he : -5000 ≤ e ∧ e ≤ 5000)
    (hm : FOk .mul 4607182418800017408 (ldW x E)) (hv : fv .mul 4607182418800017408 (ldW x E) = ldW x E) :
    Calls Try.prog 53 #[.float .f64 x, .int .i64 e] w fun e' w' => e' = .returned (.float .f64 (ldW x E)) ∧ w = w' := by
  have HI := Lib.hid (fun u => isInf_any x u h1)
  have HN := Lib.hid (fun u => isNaN_any x u h2)
  have HZ := Lib.hid (fun u => normalize_any x u h3)
  have e26 := fun u => call26 x u
  have r1 := run_fv hm
  rw [hv] at r1
  have q1 : x / 4503599627370496 < 2048 := by omega
  have ea := and_2047 (x / 4503599627370496) q1
  have eb := andNot_exp x hx
  have ec := or_exp (x % 4503599627370496) E (Nat.mod_lt _ (by omega)) (by omega)
  have hw : x % 4503599627370496 + 4503599627370496 * E = ldW x E := rfl
  rw [hw] at ec
  have hs1 : (x : Int) / 2 ^ 52 = ((x / 4503599627370496 : Nat) : Int) := by omega
  have hs2 : (x : Int) / 4503599627370496 = ((x / 4503599627370496 : Nat) : Int) := by omega
  have hsh : IntKind.u64.wrap ((E : Int) * 2 ^ 52) = ((4503599627370496 * E : Nat) : Int) := by
    rw [show ((E : Int) * 2 ^ 52) = ((4503599627370496 * E : Nat) : Int) from by omega]; exact wrap_u64_nat _ (by omega)
  have hsh2 : IntKind.u64.wrap ((E : Int) * 4503599627370496) = ((4503599627370496 * E : Nat) : Int) := by
    rw [show ((E : Int) * 4503599627370496) = ((4503599627370496 * E : Nat) : Int) from by omega]; exact wrap_u64_nat _ (by omega)
  have e55 := fun u => call55 ((ldW x E : Nat) : Int) u
  rw [Int.toNat_natCast] at e55
  obtain ⟨he1, he2⟩ := he
  obtain ⟨D, hD⟩ : ∃ D, ldW x E = D := ⟨_, rfl⟩
  rw [hD] at r1 ec e55 ⊢
  obtain ⟨G, hG⟩ : ∃ G, 4503599627370496 * E = G := ⟨_, rfl⟩
  rw [hG] at ec hsh hsh2
  obtain ⟨f, hf⟩ : ∃ f, x % 4503599627370496 = f := ⟨_, rfl⟩
  rw [hf] at eb ec
  obtain ⟨q, hq⟩ : ∃ q, x / 4503599627370496 = q := ⟨_, rfl⟩
  rw [hq] at ea hs1 hs2 hE q1
  have q2 : (q : Int) < 2048 := by omega
  have hE3 : e = (E : Int) - (q : Int) := by omega
  subst hE3
  have hE4 : (1 : Int) ≤ (E : Int) := by omega
  have hE5 : (E : Int) ≤ 2046 := by omega
  have hadd : (E : Int) - (q : Int) + ((q : Int) - 1023) = (E : Int) - 1023 := by omega
  have hadd2 : (E : Int) - 1023 + 1023 = (E : Int) := by omega
  clear hx h1 h2 h3 hm hv hw hD hG hf hq hE
  go_enter Try.func53, Try.ntmps53
  go_wp2_with (first | (go_at_call 56; refine (HI.out _).mono ?_; rintro e w' ⟨rfl, rfl⟩) | (go_at_call 57; refine (HN.out _).mono ?_; rintro e w' ⟨rfl, rfl⟩) | (go_at_call 58; refine (HZ.out _).mono ?_; rintro e w' ⟨rfl, rfl⟩))
  go_ret
  exact ⟨rfl, rfl⟩
end Go.Proofs.Ytlegkefonpiakaa
