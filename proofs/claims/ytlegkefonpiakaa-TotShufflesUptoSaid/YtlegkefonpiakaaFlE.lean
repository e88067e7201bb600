/- Plain law: a sum as two words (rounded, and what is left), by six rounded operations; a rounded sum where a little more lies below. Conditions: words in, at least one bit of fraction. -/
import Derived.Test.YtlegkefonpiakaaFlD
namespace Ieee
namespace Format
variable (f : Format)

theorem fits_double {z : Int} (h : f.Fits z) : f.Fits (2 * z) := by
  obtain ⟨k, hd, hb⟩ := f.fits_form h
  refine f.fits_of (k := k + 1) ?_ ?_
  · rw [Int.pow_succ, Int.mul_comm]; exact Int.mul_dvd_mul (Int.dvd_refl 2) hd
  · rw [Nat.pow_succ, Int.natAbs_mul, ← Nat.mul_assoc]; show 2 * z.natAbs < _; omega

/-- the rounded sum less its greater part is a word -/
theorem fast (hp : 1 ≤ f.fractionBits) {x y : Int} (hx : f.Fits x) (hy : f.Fits y) (h : y.natAbs ≤ x.natAbs) : f.Fits (f.rnd (x + y) - x) := by
  have key : ∀ x y : Int, f.Fits x → f.Fits y → y.natAbs ≤ x.natAbs → 0 < x → f.Fits (f.rnd (x + y) - x) := by
    intro x y hx hy h h0
    by_cases hy0 : 0 ≤ y
    · have h1 : x ≤ f.rnd (x + y) := by
        have := f.rnd_mono hp (show x ≤ x + y from by omega)
        rwa [f.rnd_of_fits hp hx] at this
      have h2 : f.rnd (x + y) ≤ 2 * x := by
        have := f.rnd_mono hp (show x + y ≤ 2 * x from by omega)
        rwa [f.rnd_of_fits hp (f.fits_double hx)] at this
      exact f.fits_add_small (x := f.rnd (x + y)) (y := -x) (f.fits_rnd _) (f.fits_neg hx) (by omega) (by omega)
    · by_cases hb : x < 2 * (-y)
      · have hxy : f.Fits (x + y) := f.fits_add_small hx hy (by omega) (by omega)
        rw [f.rnd_of_fits hp hxy, show x + y - x = y from by omega]; exact hy
      · have h2 : f.rnd (x + y) ≤ x := by
          have := f.rnd_mono hp (show x + y ≤ x from by omega)
          rwa [f.rnd_of_fits hp hx] at this
        obtain ⟨k, hd, hbd⟩ := f.fits_form hx
        cases k with
        | zero =>
          have hxy : f.Fits (x + y) := f.fits_of (k := 0) (by simp) (by omega)
          rw [f.rnd_of_fits hp hxy, show x + y - x = y from by omega]; exact hy
        | succ k =>
          obtain ⟨q, hq⟩ := hd
          have hhalf : x = 2 * (2 ^ k * q) := by rw [hq, Int.pow_succ, Int.mul_comm _ 2, Int.mul_assoc]
          have hfit : f.Fits (2 ^ k * q) := by
            refine f.fits_of (k := k) (Int.dvd_mul_right _ _) ?_
            rw [Nat.pow_succ] at hbd
            rw [hhalf, Int.natAbs_mul] at hbd
            have : (2 : Int).natAbs = 2 := rfl
            rw [this, ← Nat.mul_assoc] at hbd
            omega
          generalize 2 ^ k * q = half at *
          have h1 : half ≤ f.rnd (x + y) := by
            have := f.rnd_mono hp (show half ≤ x + y from by omega)
            rwa [f.rnd_of_fits hp hfit] at this
          exact f.fits_add_small (x := f.rnd (x + y)) (y := -x) (f.fits_rnd _) (f.fits_neg hx) (by omega) (by omega)
  by_cases h0 : 0 < x
  · exact key x y hx hy h h0
  · by_cases h1 : x = 0
    · subst h1
      have : y = 0 := by omega
      subst this
      rw [Int.add_zero, f.rnd_zero]; exact f.fits_zero
    · have := key (-x) (-y) (f.fits_neg hx) (f.fits_neg hy) (by omega) (by omega)
      rw [show -x + -y = -(x + y) from by omega, f.rnd_neg] at this
      have h2 := f.fits_neg this
      rw [show -(-f.rnd (x + y) - -x) = f.rnd (x + y) - x from by omega] at h2
      exact h2

/-- a sum as two words, by the six operations -/
theorem two_sum (hp : 1 ≤ f.fractionBits) {a b : Int} (ha : f.Fits a) (hb : f.Fits b) :
    f.rnd (f.rnd (a - f.rnd (f.rnd (a + b) - f.rnd (f.rnd (a + b) - a))) + f.rnd (b - f.rnd (f.rnd (a + b) - a))) = a + b - f.rnd (a + b) := by
  have hs := f.fits_rnd (a + b)
  have he := f.err_fits hp ha hb
  obtain ⟨e1, e2⟩ := f.err_le hp ha hb
  generalize hS : f.rnd (a + b) = s at *
  -- where s - a is a word all is plain
  have plain : f.Fits (s - a) → f.rnd (f.rnd (a - f.rnd (s - f.rnd (s - a))) + f.rnd (b - f.rnd (s - a))) = a + b - s := by
    intro hc
    rw [f.rnd_of_fits hp hc, show s - (s - a) = a from by omega, f.rnd_of_fits hp ha, show a - a = 0 from by omega, f.rnd_zero, show b - (s - a) = a + b - s from by omega,
      f.rnd_of_fits hp he, Int.zero_add, f.rnd_of_fits hp he]
  by_cases hab : b.natAbs ≤ a.natAbs
  · refine plain ?_
    rw [← hS]; exact f.fast hp ha hb hab
  · by_cases hsa : s.natAbs < a.natAbs
    · -- then the sum is a word
      have h1 : (a + b).natAbs ≤ a.natAbs := by
        rcases Nat.lt_or_ge a.natAbs (a + b).natAbs with h | h
        · exfalso
          have hA : f.Fits (a.natAbs : Int) := by obtain ⟨R, hR⟩ := ha; exact ⟨R, by simpa using hR⟩
          by_cases h0 : 0 ≤ a + b
          · have := f.rnd_mono hp (show (a.natAbs : Int) ≤ a + b from by omega)
            rw [f.rnd_of_fits hp hA, hS] at this; omega
          · have := f.rnd_mono hp (show a + b ≤ -(a.natAbs : Int) from by omega)
            rw [f.rnd_neg, f.rnd_of_fits hp hA, hS] at this; omega
        · exact h
      have hfit := f.fits_add_small ha hb h1 (by omega)
      have : s = a + b := by rw [← hS]; exact f.rnd_of_fits hp hfit
      refine plain ?_
      rw [this, show a + b - a = b from by omega]; exact hb
    · -- s is no smaller than a, b no smaller than the error
      have hc := f.fits_rnd (s - a)
      have hca := f.fast hp hs (f.fits_neg ha) (by omega)
      rw [show s + -a = s - a from by omega] at hca
      have hcb := f.fast hp hb (f.fits_neg he) (by omega)
      rw [show b + -(a + b - s) = s - a from by omega] at hcb
      have hη := f.err_fits hp hs (f.fits_neg ha)
      rw [show s + -a = s - a from by omega] at hη
      generalize hC : f.rnd (s - a) = c at *
      have h1 : f.Fits (s - c) := by have := f.fits_neg hca; rwa [show -(c - s) = s - c from by omega] at this
      have h2 : f.Fits (b - c) := by have := f.fits_neg hcb; rwa [show -(c - b) = b - c from by omega] at this
      have h3 : f.Fits (a - (s - c)) := by have := f.fits_neg hη; rwa [show -(s - a - c) = a - (s - c) from by omega] at this
      rw [f.rnd_of_fits hp h1, f.rnd_of_fits hp h3, f.rnd_of_fits hp h2, show a - (s - c) + (b - c) = a + b - s from by omega, f.rnd_of_fits hp he]

/-! ### rounding where a little more lies below -/
theorem fl_between {N a : Nat} (h1 : f.unit a ≤ N) (h2 : N < f.unit (a + 1)) : f.fl N = a := f.fl_eq h1 h2

/-- z = s + low, s its rounding; 2 ^ k divides z; the tail is smaller than 2 ^ k -/
theorem rnd_tail (hp : 1 ≤ f.fractionBits) {z tail : Int} {k : Nat} (hk : (2 ^ k : Int) ∣ z) (hlow : z ≠ f.rnd z) (ht : tail.natAbs < 2 ^ k) :
    (2 ^ k : Int) ∣ (z - f.rnd z) ∧
    ((tail = 0 ∨ ¬ (decide (z - f.rnd z < 0) = decide (tail < 0))) → f.rnd (z + tail) = f.rnd z) ∧
    (tail ≠ 0 → decide (z - f.rnd z < 0) = decide (tail < 0) →
      f.Fits (f.rnd (f.rnd z + 2 * (z - f.rnd z)) - f.rnd z) ∧
      (f.rnd (f.rnd z + 2 * (z - f.rnd z)) - f.rnd z = 2 * (z - f.rnd z) → f.rnd (z + tail) = f.rnd (f.rnd z + 2 * (z - f.rnd z))) ∧
      (f.rnd (f.rnd z + 2 * (z - f.rnd z)) - f.rnd z ≠ 2 * (z - f.rnd z) → f.rnd (z + tail) = f.rnd z)) := by
  have key : ∀ z tail : Int, 0 ≤ z → (2 ^ k : Int) ∣ z → z ≠ f.rnd z → tail.natAbs < 2 ^ k →
    ((tail = 0 ∨ ¬ (decide (z - f.rnd z < 0) = decide (tail < 0))) → f.rnd (z + tail) = f.rnd z) ∧
    (tail ≠ 0 → decide (z - f.rnd z < 0) = decide (tail < 0) →
      f.Fits (f.rnd (f.rnd z + 2 * (z - f.rnd z)) - f.rnd z) ∧
      (f.rnd (f.rnd z + 2 * (z - f.rnd z)) - f.rnd z = 2 * (z - f.rnd z) → f.rnd (z + tail) = f.rnd (f.rnd z + 2 * (z - f.rnd z))) ∧
      (f.rnd (f.rnd z + 2 * (z - f.rnd z)) - f.rnd z ≠ 2 * (z - f.rnd z) → f.rnd (z + tail) = f.rnd z)) := by
    intro z tail hz hk hlow ht
    obtain ⟨N, rfl⟩ := Int.eq_ofNat_of_zero_le hz
    have hkN : 2 ^ k ∣ N := by
      have := Int.natAbs_dvd_natAbs.2 hk
      simpa [Int.natAbs_pow] using this
    obtain ⟨L, _, hdL, hsu⟩ := f.unit_dvd_gap N
    obtain ⟨h1, h2⟩ := f.fl_spec N
    have hR : f.rnd (N : Int) = (f.unit (f.nr N) : Int) := by rw [f.rnd_nonneg (by omega)]; simp
    have hne : N ≠ f.unit (f.fl N) := by
      intro e
      apply hlow
      have h5 := f.nr_unit hp (f.fl N)
      rw [← e] at h5
      rw [hR, h5, ← e]
    -- k < L
    have hkL : k < L := by
      rcases Nat.lt_or_ge k L with h | h
      · exact h
      · exfalso
        have hl : 2 ^ L ∣ N := Nat.dvd_trans (Nat.pow_dvd_pow 2 h) hkN
        have := Nat.eq_zero_of_dvd_of_lt (Nat.dvd_sub hl hdL) (by omega)
        omega
    obtain ⟨M, rfl⟩ : ∃ M, L = M + 1 := ⟨L - 1, by omega⟩
    have hkM : 2 ^ k ∣ 2 ^ M := Nat.pow_dvd_pow 2 (by omega)
    have hkU : 2 ^ k ∣ f.unit (f.fl N) := Nat.dvd_trans (Nat.pow_dvd_pow 2 (by omega)) hdL
    have hG : (2 : Nat) ^ (M + 1) = 2 * 2 ^ M := by rw [Nat.pow_succ]; omega
    rw [hG] at hsu
    have hMpos : 0 < 2 ^ M := Nat.two_pow_pos _
    have hkpos : 0 < 2 ^ k := Nat.two_pow_pos _
    -- whole numbers of 2 ^ k
    have step : ∀ a b : Nat, 2 ^ k ∣ a → 2 ^ k ∣ b → a < b → a + 2 ^ k ≤ b := by
      intro a b ha hb hab
      obtain ⟨x, rfl⟩ := ha
      obtain ⟨y, rfl⟩ := hb
      have : x < y := Nat.lt_of_mul_lt_mul_left hab
      calc 2 ^ k * x + 2 ^ k = 2 ^ k * (x + 1) := by rw [Nat.mul_add, Nat.mul_one]
        _ ≤ 2 ^ k * y := Nat.mul_le_mul_left _ this
    have s1 := step _ _ hkU hkN (by omega)
    have s2 := step N (f.unit (f.fl N + 1)) hkN (by rw [hsu]; exact Nat.dvd_add hkU (Nat.dvd_trans hkM (Nat.dvd_mul_left _ _))) h2
    have s3 : N < f.unit (f.fl N) + 2 ^ M → N + 2 ^ k ≤ f.unit (f.fl N) + 2 ^ M := step _ _ hkN (Nat.dvd_add hkU hkM)
    have s4 : f.unit (f.fl N) + 2 ^ M < N → f.unit (f.fl N) + 2 ^ M + 2 ^ k ≤ N := step _ _ (Nat.dvd_add hkU hkM) hkN
    have s5 := step 0 _ (Nat.dvd_zero _) hkM hMpos
    -- the roundings near by
    have near : ∀ t : Int, (f.unit (f.fl N) : Int) ≤ t → t < f.unit (f.fl N + 1) →
        f.rnd t = if (f.unit (f.fl N) : Int) + 2 ^ M < t ∨ ((f.unit (f.fl N) : Int) + 2 ^ M = t ∧ f.fl N % 2 = 1) then (f.unit (f.fl N + 1) : Int) else f.unit (f.fl N) := by
      intro t ht1 ht2
      obtain ⟨T, rfl⟩ := Int.eq_ofNat_of_zero_le (show 0 ≤ t from by omega)
      rw [f.rnd_nonneg (by omega), Int.natAbs_natCast, f.nr_eq hp (a := f.fl N) (by omega) (by omega)]
      have hp2 : ((2 ^ M : Nat) : Int) = 2 ^ M := by simp
      rw [← hp2]
      by_cases hc : (f.unit (f.fl N) : Int) + (2 ^ M : Nat) < (T : Int) ∨ ((f.unit (f.fl N) : Int) + (2 ^ M : Nat) = (T : Int) ∧ f.fl N % 2 = 1)
      · rw [if_pos hc, if_pos (by omega)]
      · rw [if_neg hc, if_neg (by omega)]
    have hp2 : ((2 ^ M : Nat) : Int) = 2 ^ M := by simp
    have hp3 : ((2 ^ k : Nat) : Int) = 2 ^ k := by simp
    have hN := near N (by omega) (by omega)
    have hTl := near ((N : Int) + tail) (by omega) (by omega)
    have fu0 := f.fits_unit (f.fl N)
    have fu1 := f.fits_unit (f.fl N + 1)
    have fgap : f.Fits ((2 * 2 ^ M : Nat) : Int) := by
      refine f.fits_of (k := M + 1) ?_ ?_
      · rw [← hG]; simp
      · rw [Int.natAbs_natCast, hG, ← hG]
        have : 1 < 2 * f.binade := by have := f.binade_pos; omega
        calc 2 ^ (M + 1) = 1 * 2 ^ (M + 1) := by omega
          _ < 2 * f.binade * 2 ^ (M + 1) := Nat.mul_lt_mul_of_pos_right this (Nat.two_pow_pos _)
    rw [← hp2] at hN hTl
    have near' : ∀ t : Int, (f.unit (f.fl N) : Int) < t → t < f.unit (f.fl N + 1) → f.rnd t = f.unit (f.fl N) ∨ f.rnd t = f.unit (f.fl N + 1) := by
      intro t h1 h2
      rw [near t (by omega) h2]; split
      · right; rfl
      · left; rfl
    generalize f.unit (f.fl N) = u0 at *
    generalize f.unit (f.fl N + 1) = u1 at *
    generalize 2 ^ M = G at *
    generalize 2 ^ k = K at *
    by_cases hc : (u0 : Int) + (G : Nat) < (N : Int) ∨ ((u0 : Int) + (G : Nat) = (N : Int) ∧ f.fl N % 2 = 1)
    · rw [if_pos hc] at hN
      rw [hN] at hlow ⊢
      refine ⟨?_, ?_⟩
      · rintro (rfl | h)
        · rw [Int.add_zero]; exact hN
        · rw [decide_eq_true (show (N : Int) - (u1 : Nat) < 0 from by omega)] at h
          have h' : ¬ tail < 0 := by intro h''; exact h (decide_eq_true h'').symm
          rw [hTl, if_pos (by omega)]
      · intro h0 h
        rw [decide_eq_true (show (N : Int) - (u1 : Nat) < 0 from by omega)] at h
        have h' : tail < 0 := of_decide_eq_true h.symm
        by_cases he : (u0 : Int) + (G : Nat) = (N : Int)
        · have e1 : (u1 : Int) + 2 * ((N : Int) - u1) = u0 := by omega
          rw [e1, f.rnd_of_fits hp fu0]
          refine ⟨?_, ?_, ?_⟩
          · have := f.fits_neg fgap
            rwa [show -((2 * G : Nat) : Int) = (u0 : Int) - u1 from by omega] at this
          · intro _; rw [hTl, if_neg (by omega)]
          · intro hx; omega
        · have e2 : f.rnd ((u1 : Int) + 2 * ((N : Int) - u1)) = u0 ∨ f.rnd ((u1 : Int) + 2 * ((N : Int) - u1)) = u1 := near' _ (by omega) (by omega)
          refine ⟨?_, ?_, ?_⟩
          · rcases e2 with e2 | e2 <;> rw [e2]
            · have := f.fits_neg fgap
              rwa [show -((2 * G : Nat) : Int) = (u0 : Int) - u1 from by omega] at this
            · rw [Int.sub_self]; exact f.fits_zero
          · intro hx; rcases e2 with e2 | e2 <;> rw [e2] at hx <;> omega
          · intro _; rw [hTl, if_pos (by omega)]
    · rw [if_neg hc] at hN
      rw [hN] at hlow ⊢
      refine ⟨?_, ?_⟩
      · rintro (rfl | h)
        · rw [Int.add_zero]; exact hN
        · rw [decide_eq_false (show ¬ (N : Int) - (u0 : Nat) < 0 from by omega)] at h
          have h' : tail < 0 := by
            rcases Int.lt_or_le tail 0 with h'' | h''
            · exact h''
            · exact absurd (decide_eq_false (show ¬ tail < 0 from by omega)).symm h
          rw [hTl, if_neg (by omega)]
      · intro h0 h
        rw [decide_eq_false (show ¬ (N : Int) - (u0 : Nat) < 0 from by omega)] at h
        have h' : ¬ tail < 0 := of_decide_eq_false h.symm
        by_cases he : (u0 : Int) + (G : Nat) = (N : Int)
        · have e1 : (u0 : Int) + 2 * ((N : Int) - u0) = u1 := by omega
          rw [e1, f.rnd_of_fits hp fu1]
          refine ⟨?_, ?_, ?_⟩
          · rwa [show ((2 * G : Nat) : Int) = (u1 : Int) - u0 from by omega] at fgap
          · intro _; rw [hTl, if_pos (by omega)]
          · intro hx; omega
        · have e2 : f.rnd ((u0 : Int) + 2 * ((N : Int) - u0)) = u0 ∨ f.rnd ((u0 : Int) + 2 * ((N : Int) - u0)) = u1 := near' _ (by omega) (by omega)
          refine ⟨?_, ?_, ?_⟩
          · rcases e2 with e2 | e2 <;> rw [e2]
            · rw [Int.sub_self]; exact f.fits_zero
            · rwa [show ((2 * G : Nat) : Int) = (u1 : Int) - u0 from by omega] at fgap
          · intro hx; rcases e2 with e2 | e2 <;> rw [e2] at hx <;> omega
          · intro _; rw [hTl, if_neg (by omega)]
  refine ⟨Int.dvd_sub hk (f.rnd_dvd hp hk), ?_⟩
  by_cases h : 0 ≤ z
  · exact key z tail h hk hlow ht
  · have hz := key (-z) (-tail) (by omega) (Int.dvd_neg.2 hk) (by rw [f.rnd_neg]; omega) (by omega)
    rw [f.rnd_neg] at hz
    have hsum : -z + -tail = -(z + tail) := by omega
    have htt : -f.rnd z + 2 * (-z - -f.rnd z) = -(f.rnd z + 2 * (z - f.rnd z)) := by omega
    rw [hsum, htt, f.rnd_neg, f.rnd_neg] at hz
    have hsign : tail ≠ 0 → (decide (z - f.rnd z < 0) = decide (tail < 0) ↔ decide (-z - -f.rnd z < 0) = decide (-tail < 0)) := by
      intro h0
      have h1 : z - f.rnd z ≠ 0 := by omega
      by_cases a : z - f.rnd z < 0 <;> by_cases b : tail < 0
      · rw [decide_eq_true a, decide_eq_true b, decide_eq_false (show ¬ (-z - -f.rnd z < 0) from by omega), decide_eq_false (show ¬ (-tail < 0) from by omega)]
        exact ⟨fun _ => rfl, fun _ => rfl⟩
      · rw [decide_eq_true a, decide_eq_false b, decide_eq_false (show ¬ (-z - -f.rnd z < 0) from by omega), decide_eq_true (show (-tail < 0) from by omega)]
        exact ⟨(fun h => by cases h), (fun h => by cases h)⟩
      · rw [decide_eq_false a, decide_eq_true b, decide_eq_true (show (-z - -f.rnd z < 0) from by omega), decide_eq_false (show ¬ (-tail < 0) from by omega)]
        exact ⟨(fun h => by cases h), (fun h => by cases h)⟩
      · rw [decide_eq_false a, decide_eq_false b, decide_eq_true (show (-z - -f.rnd z < 0) from by omega), decide_eq_true (show (-tail < 0) from by omega)]
        exact ⟨fun _ => rfl, fun _ => rfl⟩
    refine ⟨?_, ?_⟩
    · intro h1
      have : f.rnd (z + tail) = f.rnd z := by
        rcases Classical.em (tail = 0) with h2 | h2
        · have := hz.1 (Or.inl (by omega)); omega
        · rcases h1 with h1 | h1
          · exact absurd h1 h2
          · have := hz.1 (Or.inr (fun e => h1 ((hsign h2).2 e))); omega
      exact this
    · intro h0 h1
      obtain ⟨a, b, c⟩ := hz.2 (by omega) ((hsign h0).1 h1)
      refine ⟨?_, ?_, ?_⟩
      · have := f.fits_neg a
        rwa [show -(-f.rnd (f.rnd z + 2 * (z - f.rnd z)) - -f.rnd z) = f.rnd (f.rnd z + 2 * (z - f.rnd z)) - f.rnd z from by omega] at this
      · intro hx; have := b (by omega); omega
      · intro hx; have := c (by omega); omega
end Format
end Ieee
