/- Walks: the accumulator's sign; a bit; a bit below. Conditions: the accumulator lies in a block. -/
import Derived.Test.YtlegkefonpiakaaK6
namespace Go.Proofs.Ytlegkefonpiakaa
open Go.RowKit

/-- the value is less than the top bit -/
def Rng (v : Int) : Prop := -(9223372036854775808 * 2 ^ (64 * 23)) ≤ v ∧ v < 9223372036854775808 * 2 ^ (64 * 23)
theorem limbs_zero {v : Int} : ∀ n, (∀ j, j < n → limb v j = 0) → v % 2 ^ (64 * n) = 0
  | 0, _ => by simp [Int.emod_one]
  | n + 1, h => by rw [emod_next, limbs_zero n (fun j hj => h j (by omega)), h n (by omega)]; simp
theorem top_limb {v : Int} {T : Nat} (h : -(9223372036854775808 * 2 ^ (64 * T)) ≤ v ∧ v < 9223372036854775808 * 2 ^ (64 * T)) :
    limb v T / 9223372036854775808 = if v < 0 then 1 else 0 := by
  have hc := limb_cast v T
  have hP := pow_pos64 T
  generalize (2 : Int) ^ (64 * T) = P at *
  have h1 : -9223372036854775808 ≤ v / P := by
    rw [Int.le_ediv_iff_mul_le hP]; have := h.1; rw [Int.neg_mul]; exact this
  have h2 : v / P < 9223372036854775808 := by rw [Int.ediv_lt_iff_lt_mul hP]; exact h.2
  split
  · rename_i h3
    have h4 : v / P < 0 := Int.ediv_neg_of_neg_of_pos h3 hP
    omega
  · rename_i h3
    have h4 : 0 ≤ v / P := Int.ediv_nonneg (by omega) (by omega)
    omega
theorem all_zero {v : Int} {T : Nat} (h : -(9223372036854775808 * 2 ^ (64 * T)) ≤ v ∧ v < 9223372036854775808 * 2 ^ (64 * T)) (h0 : 0 ≤ v) (hz : ∀ j, j < T + 1 → limb v j = 0) : v = 0 := by
  have h1 := limbs_zero (T + 1) hz
  rw [pow_next] at h1
  have hP := pow_pos64 T
  generalize (2 : Int) ^ (64 * T) = P at *
  rw [Int.emod_eq_of_lt h0 (by omega)] at h1
  exact h1

set_option maxRecDepth 20000 in
theorem sgn_any (g : Nat) (v : Int) (w : World) (ha : AccR w g (limb v)) (hr : Rng v) :
    Calls Try.prog 33 #[.pointer (some ⟨g, 0, none⟩)] w fun e w' => e = .returned (.int .i64 v.sign) ∧ w = w' := by
  have HA := Lib.hid ha
  have ct := ha.cell (j := 23) (by omega)
  have ht := top_limb hr
  have hz := Lib.hid (fun h0 h => all_zero hr h0 h)
  clear ha hr
  obtain ⟨t, htt⟩ : ∃ t, limb v 23 = t := ⟨_, rfl⟩
  rw [htt] at ct ht
  clear htt
  have d1 : (t : Int) / 2 ^ 63 = ((t / 9223372036854775808 : Nat) : Int) := by omega
  have d2 : (t : Int) / 9223372036854775808 = ((t / 9223372036854775808 : Nat) : Int) := by omega
  by_cases hn : v < 0
  · rw [if_pos hn] at ht
    rw [Int.sign_eq_neg_one_of_neg hn]
    rw [ht] at d1 d2
    clear hn ht hz HA
    go_enter Try.func33, Try.ntmps33
    go_wp2
    go_ret
    exact ⟨rfl, rfl⟩
  · rw [if_neg hn] at ht
    rw [ht] at d1 d2
    have h0 : 0 ≤ v := by omega
    have HV := Lib.hid h0
    have HN := Lib.hid hn
    clear hn ht h0
    obtain ⟨s, hs⟩ : ∃ s, v.sign = s := ⟨_, rfl⟩
    have HS := Lib.hid hs
    rw [hs]
    clear hs
    go_enter Try.func33, Try.ntmps33
    go_wp2
    go_loopw [3] (fun vi wr => ∃ i : Nat, i ≤ 24 ∧ vi = .int .i64 i ∧ (∀ j, j < i → limb v j = 0) ∧ w = wr) (fun vi _ => 24 - (intOf vi).toNat)
    case atStart => exact ⟨0, by omega, rfl, fun j hj => absurd hj (by omega), rfl⟩
    case round =>
      obtain ⟨i, hi, rfl, hall, rfl⟩ := hrel
      have HALL := Lib.hid hall
      clear hall
      by_cases hin : i < 24
      · have ci := HA.out.cell hin
        have hii : (i : Int) < 24 := by omega
        obtain ⟨L, hL⟩ : ∃ L, limb v i = L := ⟨_, rfl⟩
        rw [hL] at ci
        have HL := Lib.hid hL
        clear hL
        by_cases hz0 : L = 0
        · subst hz0
          have ci : w.cell? ⟨g, i, none⟩ = some (.int .u64 0) := ci
          go_wp2
          go_roundw
          case rel => exact ⟨i + 1, by omega, by go_num, fun j hj => by
            rcases Nat.lt_or_ge j i with h | h
            · exact HALL.out j h
            · obtain rfl : j = i := by omega
              exact HL.out, trivial⟩
          case measure => first | (simp [intOf]; done) | (simp [intOf]; omega)
        · have hne : ((L : Int) != 0) = true := by rw [bne_iff_ne]; omega
          have hs1 : Hid (s = 1) := Lib.hid (by
            rw [← HS.out]
            apply Int.sign_eq_one_of_pos
            have h0 := HV.out
            rcases Int.lt_or_eq_of_le h0 with h | h
            · exact h
            · exfalso
              apply hz0
              rw [← HL.out, ← h]
              have := limb_cast 0 i
              rw [Int.zero_ediv, Int.zero_emod] at this
              omega)
          clear hz0
          go_wp2
          go_ret
          exact ⟨by rw [hs1.out]; rfl, rfl⟩
      · have hin2 : i = 24 := by omega
        subst hin2
        have hs1 : Hid (s = 0) := Lib.hid (by
          rw [← HS.out, hz.out HV.out HALL.out]; rfl)
        go_wp2
        go_ret
        exact ⟨by rw [hs1.out]; rfl, rfl⟩
end Go.Proofs.Ytlegkefonpiakaa
