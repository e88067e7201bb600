/- Plain law of rounding, said of whole numbers (units of the least place): the nearest word of a whole number; errors of sums are words; no bound above. Conditions: those of each sentence. -/
import Derived.Test.YtlegkefonpiakaaFlB
namespace Ieee
namespace Format
variable (f : Format)

theorem unit_fl_of_dvd' {N k m : Nat} (hN : N = m * 2 ^ k) (hm : m < 2 * f.binade) : f.unit (f.fl N) = N := by
  rw [(f.fl_parts N).1]
  have hL : N.log2 - f.fractionBits ≤ k := by
    by_cases h0 : N = 0
    · rw [h0, show Nat.log2 0 = 0 from by decide]; omega
    · have h1 : N < 2 ^ (f.fractionBits + 1 + k) := by
        rw [hN, Nat.pow_add]
        have : m < 2 ^ (f.fractionBits + 1) := by rw [Nat.pow_succ]; unfold binade at hm; omega
        exact Nat.mul_lt_mul_of_pos_right this (Nat.two_pow_pos _)
      have := (Nat.log2_lt h0).2 h1
      omega
  obtain ⟨j, hj⟩ : ∃ j, k = j + (N.log2 - f.fractionBits) := ⟨k - (N.log2 - f.fractionBits), by omega⟩
  generalize N.log2 - f.fractionBits = L at *
  have : N = (m * 2 ^ j) * 2 ^ L := by rw [hN, hj, Nat.pow_add, Nat.mul_assoc]
  rw [this, Nat.mul_div_cancel _ (Nat.two_pow_pos _)]

theorem unit_form' (r : Nat) : ∃ m k, f.unit r = m * 2 ^ k ∧ m < 2 * f.binade := by
  have hB := f.binade_pos
  unfold unit
  by_cases h : r < f.binade
  · rw [if_pos h]; exact ⟨r, 0, by simp, by omega⟩
  · rw [if_neg h]; exact ⟨_, _, rfl, by have := Nat.mod_lt r hB; omega⟩

theorem _root_.Int.pow_dvd_pow' {i j : Nat} (h : i ≤ j) : (2 ^ i : Int) ∣ 2 ^ j := by
  obtain ⟨k, rfl⟩ : ∃ k, j = i + k := ⟨j - i, by omega⟩
  rw [Int.pow_add]; exact Int.dvd_mul_right _ _

/-- a whole number rounded: its nearest unit, with its sign -/
def rnd (z : Int) : Int := if z < 0 then -(f.unit (f.nr z.natAbs) : Int) else (f.unit (f.nr z.natAbs) : Int)
/-- a whole number that is a word's -/
def Fits (z : Int) : Prop := ∃ R, f.unit R = z.natAbs

theorem fits_unit (R : Nat) : f.Fits (f.unit R : Int) := ⟨R, rfl⟩
theorem fits_zero : f.Fits 0 := ⟨0, by simp⟩
theorem fits_neg {z : Int} (h : f.Fits z) : f.Fits (-z) := by obtain ⟨R, h⟩ := h; exact ⟨R, by rw [Int.natAbs_neg]; exact h⟩
theorem fits_rnd (z : Int) : f.Fits (f.rnd z) := by
  unfold rnd; split
  · exact f.fits_neg (f.fits_unit _)
  · exact f.fits_unit _

theorem rnd_neg (z : Int) : f.rnd (-z) = -f.rnd z := by
  unfold rnd
  rw [Int.natAbs_neg]
  by_cases h0 : z = 0
  · subst h0
    have : f.nr 0 = 0 := by unfold nr; rw [show Nat.log2 0 = 0 from by decide]; simp [rne]
    simp [this]
  · by_cases h : z < 0
    · rw [if_pos h, if_neg (by omega)]; omega
    · rw [if_neg h, if_pos (by omega)]

theorem nr_zero : f.nr 0 = 0 := by unfold nr; rw [show Nat.log2 0 = 0 from by decide]; simp [rne]
theorem rnd_zero : f.rnd 0 = 0 := by unfold rnd; simp [nr_zero]

theorem rnd_of_fits (hp : 1 ≤ f.fractionBits) {z : Int} (h : f.Fits z) : f.rnd z = z := by
  obtain ⟨R, h⟩ := h
  unfold rnd
  rw [← h, f.nr_unit hp R, h]
  split <;> omega

/-! ### the rounding of a natural number -/
theorem nr_cases (hp : 1 ≤ f.fractionBits) (N : Nat) : (f.nr N = f.fl N ∧ 2 * N ≤ f.unit (f.fl N) + f.unit (f.fl N + 1)) ∨ (f.nr N = f.fl N + 1 ∧ f.unit (f.fl N) + f.unit (f.fl N + 1) ≤ 2 * N) := by
  obtain ⟨h1, h2⟩ := f.fl_spec N
  rw [f.nr_eq hp h1 h2]
  split
  · right; exact ⟨rfl, by omega⟩
  · left; exact ⟨rfl, by omega⟩

theorem nr_near (hp : 1 ≤ f.fractionBits) (N r : Nat) : (f.unit (f.nr N) : Int) - N ≤ (f.unit r : Int) - N ∧ (N : Int) - f.unit (f.nr N) ≤ (f.unit r : Int) - N ∨ (f.unit (f.nr N) : Int) - N ≤ N - (f.unit r : Int) ∧ (N : Int) - f.unit (f.nr N) ≤ (N : Int) - f.unit r := by
  obtain ⟨h1, h2⟩ := f.fl_spec N
  have hr : r ≤ f.fl N ∨ f.fl N + 1 ≤ r := by omega
  rcases hr with hr | hr
  · right
    have h3 := f.unit_le hr
    rcases f.nr_cases hp N with ⟨h, h4⟩ | ⟨h, h4⟩ <;> rw [h] <;> omega
  · left
    have h3 := f.unit_le hr
    rcases f.nr_cases hp N with ⟨h, h4⟩ | ⟨h, h4⟩ <;> rw [h] <;> omega

theorem fl_mono {N M : Nat} (h : N ≤ M) : f.fl N ≤ f.fl M := by
  obtain ⟨h1, h2⟩ := f.fl_spec N
  obtain ⟨h3, h4⟩ := f.fl_spec M
  have : f.fl N < f.fl M + 1 := f.unit_lt_iff.1 (by omega)
  omega

theorem nr_mono (hp : 1 ≤ f.fractionBits) {N M : Nat} (h : N ≤ M) : f.nr N ≤ f.nr M := by
  have h0 := f.fl_mono h
  obtain ⟨h1, h2⟩ := f.fl_spec N
  obtain ⟨h3, h4⟩ := f.fl_spec M
  rcases Nat.lt_or_eq_of_le h0 with h5 | h5
  · rcases f.nr_cases hp N with ⟨a, _⟩ | ⟨a, _⟩ <;> rcases f.nr_cases hp M with ⟨b, _⟩ | ⟨b, _⟩ <;> omega
  · rw [f.nr_eq hp h1 h2, f.nr_eq hp h3 h4, ← h5]
    split <;> split <;> omega

theorem unit_dvd_gap (N : Nat) : ∃ L, f.gap (f.fl N) = 2 ^ L ∧ 2 ^ L ∣ f.unit (f.fl N) ∧ f.unit (f.fl N + 1) = f.unit (f.fl N) + 2 ^ L := by
  obtain ⟨h1, h2⟩ := f.fl_parts N
  refine ⟨_, h2, ?_, ?_⟩
  · rw [h1]; exact Nat.dvd_mul_left _ _
  · rw [f.unit_succ, h2]

theorem nr_dvd (hp : 1 ≤ f.fractionBits) {N k : Nat} (h : 2 ^ k ∣ N) : 2 ^ k ∣ f.unit (f.nr N) := by
  obtain ⟨L, hg, hd, hs⟩ := f.unit_dvd_gap N
  obtain ⟨h1, h2⟩ := f.fl_spec N
  by_cases hk : k ≤ L
  · have hkl : 2 ^ k ∣ 2 ^ L := Nat.pow_dvd_pow 2 hk
    rcases f.nr_cases hp N with ⟨a, _⟩ | ⟨a, _⟩ <;> rw [a]
    · exact Nat.dvd_trans hkl hd
    · rw [hs]; exact Nat.dvd_add (Nat.dvd_trans hkl hd) hkl
  · have hlk : 2 ^ L ∣ N := Nat.dvd_trans (Nat.pow_dvd_pow 2 (by omega)) h
    have he : N = f.unit (f.fl N) := by
      have h3 : 2 ^ L ∣ N - f.unit (f.fl N) := Nat.dvd_sub hlk hd
      have h4 : N - f.unit (f.fl N) < 2 ^ L := by omega
      have := Nat.eq_zero_of_dvd_of_lt h3 h4
      omega
    have : f.nr N = f.fl N := by
      have h5 := f.nr_unit hp (f.fl N)
      rw [← he] at h5; exact h5
    rw [this, ← he]; exact h

/-! ### whole numbers -/
theorem rnd_nonneg {z : Int} (h : 0 ≤ z) : f.rnd z = (f.unit (f.nr z.natAbs) : Int) := by unfold rnd; rw [if_neg (by omega)]

theorem rnd_near (hp : 1 ≤ f.fractionBits) (z : Int) {g : Int} (hg : f.Fits g) : (f.rnd z - z).natAbs ≤ (g - z).natAbs := by
  have key : ∀ z : Int, 0 ≤ z → ∀ g, f.Fits g → (f.rnd z - z).natAbs ≤ (g - z).natAbs := by
    intro z hz g hg
    rw [f.rnd_nonneg hz]
    obtain ⟨R, hR⟩ := hg
    obtain ⟨N, rfl⟩ := Int.eq_ofNat_of_zero_le hz
    simp only [Int.natAbs_natCast]
    have h1 := f.nr_near hp N R
    have h2 := f.nr_near hp N 0
    rw [f.unit_zero] at h2
    omega
  by_cases h : 0 ≤ z
  · exact key z h g hg
  · have := key (-z) (by omega) (-g) (f.fits_neg hg)
    rw [f.rnd_neg] at this
    omega

theorem rnd_mono (hp : 1 ≤ f.fractionBits) {a b : Int} (h : a ≤ b) : f.rnd a ≤ f.rnd b := by
  unfold rnd
  by_cases ha : a < 0 <;> by_cases hb : b < 0
  · rw [if_pos ha, if_pos hb]
    have := f.unit_le (f.nr_mono hp (show b.natAbs ≤ a.natAbs from by omega))
    omega
  · rw [if_pos ha, if_neg hb]; omega
  · omega
  · rw [if_neg ha, if_neg hb]
    have := f.unit_le (f.nr_mono hp (show a.natAbs ≤ b.natAbs from by omega))
    omega

theorem rnd_dvd (hp : 1 ≤ f.fractionBits) {z : Int} {k : Nat} (h : (2 ^ k : Int) ∣ z) : (2 ^ k : Int) ∣ f.rnd z := by
  have h1 : 2 ^ k ∣ z.natAbs := by
    have := Int.natAbs_dvd_natAbs.2 h
    simpa [Int.natAbs_pow] using this
  have h2 := f.nr_dvd hp h1
  have h3 : (2 ^ k : Int) ∣ (f.unit (f.nr z.natAbs) : Int) := by
    have := Int.natCast_dvd_natCast.2 h2
    simpa using this
  unfold rnd; split
  · exact Int.dvd_neg.2 h3
  · exact h3

/-- few digits at a place: a word -/
theorem fits_of {z : Int} {k : Nat} (hd : (2 ^ k : Int) ∣ z) (hb : z.natAbs < 2 * f.binade * 2 ^ k) : f.Fits z := by
  have h1 : 2 ^ k ∣ z.natAbs := by
    have := Int.natAbs_dvd_natAbs.2 hd
    simpa [Int.natAbs_pow] using this
  obtain ⟨q, hq⟩ := h1
  refine ⟨f.fl z.natAbs, f.unit_fl_of_dvd' (m := q) (k := k) (by rw [hq, Nat.mul_comm]) ?_⟩
  rw [hq, Nat.mul_comm] at hb
  exact Nat.lt_of_mul_lt_mul_right hb

theorem fits_form {z : Int} (h : f.Fits z) : ∃ k : Nat, (2 ^ k : Int) ∣ z ∧ z.natAbs < 2 * f.binade * 2 ^ k := by
  obtain ⟨R, hR⟩ := h
  obtain ⟨m, k, hu, hm⟩ := f.unit_form' R
  refine ⟨k, ?_, ?_⟩
  · have : 2 ^ k ∣ z.natAbs := by rw [← hR, hu]; exact Nat.dvd_mul_left _ _
    have := Int.natCast_dvd_natCast.2 this
    rw [Int.natCast_pow] at this
    exact Int.dvd_natAbs.1 this
  · rw [← hR, hu]; exact Nat.mul_lt_mul_of_pos_right hm (Nat.two_pow_pos _)

/-- a sum that is no greater than either part is a word -/
theorem fits_add_small {x y : Int} (hx : f.Fits x) (hy : f.Fits y) (h1 : (x + y).natAbs ≤ x.natAbs) (h2 : (x + y).natAbs ≤ y.natAbs) : f.Fits (x + y) := by
  obtain ⟨i, di, bi⟩ := f.fits_form hx
  obtain ⟨j, dj, bj⟩ := f.fits_form hy
  rcases Nat.le_total i j with h | h
  · exact f.fits_of (k := i) (Int.dvd_add di (Int.dvd_trans (Int.pow_dvd_pow' h) dj)) (by omega)
  · exact f.fits_of (k := j) (Int.dvd_add (Int.dvd_trans (Int.pow_dvd_pow' h) di) dj) (by omega)

/-- the error of a rounded sum: a word, no greater than either part -/
theorem err_le (hp : 1 ≤ f.fractionBits) {x y : Int} (hx : f.Fits x) (hy : f.Fits y) : (x + y - f.rnd (x + y)).natAbs ≤ x.natAbs ∧ (x + y - f.rnd (x + y)).natAbs ≤ y.natAbs := by
  have h1 := f.rnd_near hp (x + y) hy
  have h2 := f.rnd_near hp (x + y) hx
  omega

theorem err_fits (hp : 1 ≤ f.fractionBits) {x y : Int} (hx : f.Fits x) (hy : f.Fits y) : f.Fits (x + y - f.rnd (x + y)) := by
  obtain ⟨h1, h2⟩ := f.err_le hp hx hy
  obtain ⟨i, di, bi⟩ := f.fits_form hx
  obtain ⟨j, dj, bj⟩ := f.fits_form hy
  rcases Nat.le_total i j with h | h
  · have d : (2 ^ i : Int) ∣ x + y := Int.dvd_add di (Int.dvd_trans (Int.pow_dvd_pow' h) dj)
    exact f.fits_of (k := i) (Int.dvd_sub d (f.rnd_dvd hp d)) (by omega)
  · have d : (2 ^ j : Int) ∣ x + y := Int.dvd_add (Int.dvd_trans (Int.pow_dvd_pow' h) di) dj
    exact f.fits_of (k := j) (Int.dvd_sub d (f.rnd_dvd hp d)) (by omega)
end Format
end Ieee
