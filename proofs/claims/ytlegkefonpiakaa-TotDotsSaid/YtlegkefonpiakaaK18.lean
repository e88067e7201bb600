/- Walks: Round of the accumulator gives the rounded sum's word. Conditions: 0, or 2^53 or more in magnitude; below 2^1535. -/
import Derived.Test.YtlegkefonpiakaaK17
namespace Go.Proofs.Ytlegkefonpiakaa
open Go.RowKit
open Ieee (FinW V dR big double wordOf rne)

def topE : Nat := 1535
theorem wordOf_dR (z : Int) : wordOf (dR z) = wordOf z := by
  have h1 : (dR z).natAbs = double.unit (double.nr z.natAbs) := by
    unfold Ieee.dR Ieee.Format.rnd; split
    · rw [Int.natAbs_neg, Int.natAbs_natCast]
    · rw [Int.natAbs_natCast]
  have h2 : decide (dR z < 0) = decide (z < 0) := by
    have := (dR_sign z).1
    by_cases h : z < 0
    · rw [decide_eq_true h, decide_eq_true (this.2 h)]
    · rw [decide_eq_false h, decide_eq_false (fun h' => h (this.1 h'))]
  unfold Ieee.wordOf
  rw [h1, h2, double.nr_unit Ieee.hp52]

theorem word_mag {u H : Nat} (h1 : 2 ^ H ≤ u) (h2 : u < 2 ^ (H + 1)) (hH : 53 ≤ H) : double.nr (u * 2 ^ 50) = rne u (H - 52) + 4503599627370496 * (H - 2) := nr_top h1 h2 hH

theorem rng_gen {v : Int} {k E : Nat} (hE : E = 63 + k) (hb : v.natAbs < 2 ^ E) : -(9223372036854775808 * 2 ^ k) ≤ v ∧ v < 9223372036854775808 * 2 ^ k := by
  have e : (2 : Nat) ^ E = 9223372036854775808 * 2 ^ k := by
    have e63 : (9223372036854775808 : Nat) = 2 ^ 63 := by decide
    rw [e63, hE, Nat.pow_add]
  have e2 : (9223372036854775808 : Int) * 2 ^ k = ((9223372036854775808 * 2 ^ k : Nat) : Int) := by
    rw [Int.natCast_mul, Int.natCast_pow]; rfl
  rw [e] at hb
  rw [e2]
  generalize 9223372036854775808 * 2 ^ k = P at *
  omega
theorem rng_of {v : Int} (hb : v.natAbs < 2 ^ topE) : Rng v := @rng_gen v (64 * 23) topE rfl hb

set_option maxRecDepth 20000 in
theorem round_zero (g : Nat) (w : World) (ha : AccR w g (limb 0)) :
    Calls Try.prog 32 #[.pointer (some ⟨g, 0, none⟩)] w fun e w' => e = .returned (.float .f64 0) ∧ w = w' := by
  have hs := sgn_any g 0 w ha (rng_of (Nat.two_pow_pos _))
  rw [Int.sign_zero] at hs
  have HS := Lib.hid hs
  clear hs ha
  go_enter Try.func32, Try.ntmps32
  go_wp2_with (first | (go_at_call 33; refine HS.out.mono ?_; rintro e w' ⟨rfl, rfl⟩))
  go_ret
  exact ⟨rfl, rfl⟩

theorem log_of {u : Nat} (h53 : 2 ^ 53 ≤ u) (hb : u < 2 ^ topE) : ∃ H, 2 ^ H ≤ u ∧ u < 2 ^ (H + 1) ∧ 53 ≤ H ∧ H < 1535 := by
  have h0 : u ≠ 0 := by have := Nat.two_pow_pos 53; omega
  refine ⟨u.log2, Nat.log2_self_le h0, Nat.lt_log2_self, (Nat.le_log2 h0).2 h53, ?_⟩
  have h : u.log2 < topE := (Nat.log2_lt h0).2 hb
  exact h

theorem round_any (g : Nat) (v : Int) (w : World) (ha : AccR w g (limb v)) (hb : v.natAbs < 2 ^ topE) (h0 : v = 0 ∨ 2 ^ 53 ≤ v.natAbs) :
    Calls Try.prog 32 #[.pointer (some ⟨g, 0, none⟩)] w fun e w' => e = .returned (.float .f64 (wordOf (dR (v * 2 ^ 50)))) ∧ Below w.heap.size w w' := by
  rw [wordOf_dR]
  have hr := rng_of hb
  rcases h0 with rfl | h0
  · have e : wordOf (0 * 2 ^ 50) = 0 := by decide +kernel
    rw [e]
    exact (round_zero g w ha).mono fun e w' ⟨h1, h2⟩ => ⟨h1, by subst h2; exact Below.refl _ _⟩
  · obtain ⟨H, k1, k2, k3, k4⟩ := log_of h0 hb
    have hm := word_mag k1 k2 k3
    have hp : (0 : Int) < 2 ^ 50 := Int.pow_pos (by omega)
    have hab : (v * 2 ^ 50).natAbs = v.natAbs * 2 ^ 50 := by rw [Int.natAbs_mul, Int.natAbs_pow]; rfl
    have hlt : rne v.natAbs (H - 52) + 4503599627370496 * (H - 2) < 9223372036854775808 := by
      have hb := bits_lt (k := H - 52) k2 (by omega)
      have : rne v.natAbs (H - 52) ≤ v.natAbs / 2 ^ (H - 52) + 1 := by unfold Ieee.rne; split <;> omega
      omega
    obtain ⟨u, hu⟩ : ∃ u, v.natAbs = u := ⟨_, rfl⟩
    rw [hu] at k1 k2 hm hlt hab
    rcases Int.lt_or_le v 0 with hn | hn
    · have hv : v = -(u : Int) := by omega
      have hz : v * 2 ^ 50 < 0 := Int.mul_neg_of_neg_of_pos hn hp
      have hw : wordOf (v * 2 ^ 50) = negW (rne u (H - 52) + 4503599627370496 * (H - 2)) := by
        unfold Ieee.wordOf
        rw [decide_eq_true hz, hab, hm]
        have e : double.signWeight = 9223372036854775808 := by decide
        unfold Ieee.Format.word negW
        rw [e, if_pos rfl, if_pos hlt, Nat.add_comm]
      rw [hw]
      subst hv
      exact round_neg g u H w ha hr k1 k2 k3 k4
    · have hv : v = (u : Int) := by omega
      have hz : ¬ v * 2 ^ 50 < 0 := Int.not_lt.2 (Int.mul_nonneg hn (Int.le_of_lt hp))
      have hw : wordOf (v * 2 ^ 50) = rne u (H - 52) + 4503599627370496 * (H - 2) := by
        unfold Ieee.wordOf
        rw [decide_eq_false hz, hab, hm]
        unfold Ieee.Format.word
        simp
      rw [hw]
      subst hv
      exact round_pos g u H w ha hr k1 k2 k3 k4
end Go.Proofs.Ytlegkefonpiakaa
