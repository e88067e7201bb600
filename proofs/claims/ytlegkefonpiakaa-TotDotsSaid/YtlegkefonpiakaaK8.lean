/- Walks: a bit of the accumulator; is one below. Conditions: the accumulator lies in a block, not below zero. -/
import Derived.Test.YtlegkefonpiakaaK7
namespace Go.Proofs.Ytlegkefonpiakaa
open Go.RowKit

theorem limb_nat (u i : Nat) : limb (u : Int) i = u / 2 ^ (64 * i) % 18446744073709551616 := by
  have h := limb_cast (u : Int) i
  rw [show (2 : Int) ^ (64 * i) = ((2 ^ (64 * i) : Nat) : Int) from (Int.natCast_pow 2 _).symm, ← Int.natCast_ediv] at h
  omega
theorem limb_bit (u W k : Nat) (hk : k < 64) : limb (u : Int) W / 2 ^ k % 2 = u / 2 ^ (64 * W + k) % 2 := by
  rw [limb_nat, Nat.pow_add, ← Nat.div_div_eq_div_mul]
  generalize u / 2 ^ (64 * W) = x
  have e : 18446744073709551616 = 2 ^ k * 2 ^ (64 - k) := by rw [← Nat.pow_add, show k + (64 - k) = 64 from by omega]
  rw [e, Nat.mod_mul_right_div_self]
  obtain ⟨d, hd⟩ : ∃ d, 64 - k = d + 1 := ⟨63 - k, by omega⟩
  rw [hd, Nat.pow_succ, Nat.mul_comm]
  exact Nat.mod_mul_right_mod _ _ _

set_option maxRecDepth 20000 in
theorem bit_any (g u i : Nat) (w : World) (ha : AccR w g (limb (u : Int))) (hi : i < 1536) :
    Calls Try.prog 43 #[.pointer (some ⟨g, 0, none⟩), .int .i64 (i : Int)] w fun e w' => e = .returned (.int .u64 ((u / 2 ^ i % 2 : Nat) : Int)) ∧ w = w' := by
  obtain ⟨W, k, hW, hk, hik⟩ : ∃ W k, W < 24 ∧ k < 64 ∧ i = 64 * W + k := ⟨i / 64, i % 64, by omega, by omega, by omega⟩
  have ct := ha.cell hW
  have hb := limb_bit u W k hk
  rw [← hik] at hb
  have hq1 : ((i : Nat) : Int).tdiv 64 = (W : Int) := by rw [Int.tdiv_eq_ediv_of_nonneg (by omega)]; omega
  have hq2 : ((i : Nat) : Int) / 64 = (W : Int) := by omega
  have hr1 : ((i : Nat) : Int).tmod 64 = (k : Int) := by rw [Int.tmod_eq_emod_of_nonneg (by omega)]; omega
  have hr2 : ((i : Nat) : Int) % 64 = (k : Int) := by omega
  have hWi : (W : Int) < 24 := by omega
  have hki : (k : Int) < 64 := by omega
  have hge : (0 : Int) ≤ (i : Int) := by omega
  rw [← hb]
  clear hb hik ha
  obtain ⟨L, hL⟩ : ∃ L, limb (u : Int) W = L := ⟨_, rfl⟩
  rw [hL] at ct ⊢
  have hs : (L : Int) / 2 ^ k = ((L / 2 ^ k : Nat) : Int) := by rw [Int.natCast_ediv, Int.natCast_pow]; rfl
  have ho := and_one (L / 2 ^ k)
  obtain ⟨S, hS⟩ : ∃ S, L / 2 ^ k = S := ⟨_, rfl⟩
  rw [hS] at hs ho ⊢
  obtain ⟨R, hR⟩ : ∃ R, S % 2 = R := ⟨_, rfl⟩
  rw [hR] at ho ⊢
  clear hL hS hR
  go_enter Try.func43, Try.ntmps43
  go_wp2
  go_ret
  exact ⟨rfl, rfl⟩

theorem bit_next (u k : Nat) : u % 2 ^ (k + 1) = u % 2 ^ k + 2 ^ k * (u / 2 ^ k % 2) := Nat.mod_pow_succ
theorem mod_zero_le {u i k : Nat} (h : u % 2 ^ i = 0) (hk : k ≤ i) : u % 2 ^ k = 0 := by
  have h1 : (2 : Nat) ^ k ∣ 2 ^ i := Nat.pow_dvd_pow 2 hk
  exact Nat.mod_eq_zero_of_dvd (Nat.dvd_trans h1 (Nat.dvd_of_mod_eq_zero h))

set_option maxRecDepth 20000 in
theorem below_any (g u i : Nat) (w : World) (ha : AccR w g (limb (u : Int))) (hi : i < 1536) :
    Calls Try.prog 44 #[.pointer (some ⟨g, 0, none⟩), .int .i64 (i : Int)] w fun e w' => e = .returned (.bool (decide (u % 2 ^ i ≠ 0))) ∧ w = w' := by
  have hbit := Lib.hid (fun k (hk : k < 1536) => bit_any g u k w ha hk)
  obtain ⟨B, hB⟩ : ∃ B, decide (u % 2 ^ i ≠ 0) = B := ⟨_, rfl⟩
  have HB := Lib.hid hB
  rw [hB]
  clear hB ha
  go_enter Try.func44, Try.ntmps44
  go_wp2
  go_loopw [5] (fun vi wr => ∃ k : Nat, k ≤ i ∧ vi = .int .i64 k ∧ u % 2 ^ k = 0 ∧ w = wr) (fun vi _ => i - (intOf vi).toNat)
  case atStart => exact ⟨0, by omega, rfl, by rw [Nat.pow_zero, Nat.mod_one], rfl⟩
  case round =>
    obtain ⟨k, hk, rfl, hall, rfl⟩ := hrel
    have HALL := Lib.hid hall
    clear hall
    by_cases hkn : k < i
    · have hb := hbit.out k (by omega)
      obtain ⟨b, hbb⟩ : ∃ b, u / 2 ^ k % 2 = b := ⟨_, rfl⟩
      rw [hbb] at hb
      have HC := Lib.hid hb
      have hb2 : b < 2 := by omega
      have HBB := Lib.hid hbb
      clear hb hbb
      by_cases h1 : b = 1
      · subst h1
        have hs : Hid (B = true) := Lib.hid (by
          rw [← HB.out]
          apply decide_eq_true
          intro h0
          have h2 := mod_zero_le h0 (show k + 1 ≤ i by omega)
          rw [bit_next, HBB.out] at h2
          have := Nat.two_pow_pos k
          omega)
        go_wp2_with fail
        refine HC.out.mono ?_
        rintro e w' ⟨rfl, rfl⟩
        go_wp2
        go_ret
        exact ⟨by rw [hs.out]; rfl, rfl⟩
      · have h0 : b = 0 := by omega
        subst h0
        clear h1 hb2
        go_wp2_with fail
        refine HC.out.mono ?_
        rintro e w' ⟨rfl, rfl⟩
        go_wp2
        go_roundw
        case rel => exact ⟨k + 1, by omega, by go_num, by rw [bit_next, HBB.out, HALL.out]; rfl, trivial⟩
        case measure => first | (simp [intOf]; done) | (simp [intOf]; omega)
    · have hin2 : i = k := by omega
      subst hin2
      have hs : Hid (B = false) := Lib.hid (by
        rw [← HB.out]
        apply decide_eq_false
        intro h; exact h HALL.out)
      go_wp2
      go_ret
      exact ⟨by rw [hs.out]; rfl, rfl⟩
end Go.Proofs.Ytlegkefonpiakaa
