/- Plain law of binary64: rounding keeps its scale; a number in two halves; a product as two words. Conditions: words in, normal, at places that are whole. -/
import Derived.Test.YtlegkefonpiakaaFlF
namespace Ieee
namespace Format
variable (f : Format)

theorem unit_shift {a : Nat} (h : f.binade ≤ a) (k : Nat) : f.unit (a + k * f.binade) = f.unit a * 2 ^ k := by
  have hB := f.binade_pos
  unfold unit
  rw [if_neg (by omega), if_neg (by omega), Nat.add_mul_mod_self_right, Nat.add_mul_div_right _ _ hB]
  have hq : 1 ≤ a / f.binade := (Nat.one_le_div_iff hB).2 h
  rw [show a / f.binade + k - 1 = (a / f.binade - 1) + k from by omega, Nat.pow_add, Nat.mul_assoc]

/-- rounding keeps its scale -/
theorem rnd_scale (hp : 1 ≤ f.fractionBits) (z : Int) (k : Nat) : f.rnd (z * 2 ^ k) = f.rnd z * 2 ^ k := by
  have key : ∀ N : Nat, f.unit (f.nr (N * 2 ^ k)) = f.unit (f.nr N) * 2 ^ k := by
    intro N
    obtain ⟨h1, h2⟩ := f.fl_spec N
    have hkp : 0 < 2 ^ k := Nat.two_pow_pos _
    by_cases hfit : N = f.unit (f.fl N)
    · obtain ⟨m, e, hu, hm⟩ := f.unit_form' (f.fl N)
      have h3 := f.unit_fl_of_dvd' (N := N * 2 ^ k) (m := m) (k := e + k) (by rw [hfit, hu, Nat.pow_add, Nat.mul_assoc]) hm
      have h4 := f.nr_unit hp (f.fl (N * 2 ^ k))
      rw [h3] at h4
      have h5 := f.nr_unit hp (f.fl N)
      rw [← hfit] at h5
      rw [h4, h3, h5, ← hfit]
    · have ha : f.binade ≤ f.fl N := by
        rcases Nat.lt_or_ge (f.fl N) f.binade with h | h
        · exfalso
          have : f.unit (f.fl N + 1) = f.unit (f.fl N) + 1 := by rw [f.unit_succ]; unfold gap; rw [Nat.div_eq_of_lt h]
          omega
        · exact h
      have u0 := f.unit_shift ha k
      have u1 := f.unit_shift (show f.binade ≤ f.fl N + 1 from by omega) k
      rw [show f.fl N + 1 + k * f.binade = f.fl N + k * f.binade + 1 from by omega] at u1
      have b1 : f.unit (f.fl N + k * f.binade) ≤ N * 2 ^ k := by rw [u0]; exact Nat.mul_le_mul_right _ h1
      have b2 : N * 2 ^ k < f.unit (f.fl N + k * f.binade + 1) := by rw [u1]; exact Nat.mul_lt_mul_of_pos_right h2 hkp
      have hev : (f.fl N + k * f.binade) % 2 = f.fl N % 2 := by
        have : f.binade % 2 = 0 := by
          unfold binade
          obtain ⟨q, hq⟩ : ∃ q, f.fractionBits = q + 1 := ⟨f.fractionBits - 1, by omega⟩
          rw [hq, Nat.pow_succ]; omega
        rw [Nat.add_mod, Nat.mul_mod, this]; simp
      rw [f.nr_eq hp b1 b2, f.nr_eq hp h1 h2, hev, u0, u1]
      have c1 : (f.unit (f.fl N) * 2 ^ k + f.unit (f.fl N + 1) * 2 ^ k < 2 * (N * 2 ^ k)) ↔ (f.unit (f.fl N) + f.unit (f.fl N + 1) < 2 * N) := by
        rw [← Nat.add_mul, ← Nat.mul_assoc]; exact Nat.mul_lt_mul_right hkp
      have c2 : (f.unit (f.fl N) * 2 ^ k + f.unit (f.fl N + 1) * 2 ^ k = 2 * (N * 2 ^ k)) ↔ (f.unit (f.fl N) + f.unit (f.fl N + 1) = 2 * N) := by
        rw [← Nat.add_mul, ← Nat.mul_assoc]
        exact ⟨fun e => Nat.eq_of_mul_eq_mul_right hkp e, fun e => congrArg (· * 2 ^ k) e⟩
      simp only [c1, c2]
      split
      · exact u1
      · exact u0
  have hpos : (0 : Int) < 2 ^ k := Int.pow_pos (by omega)
  have hcast : ((2 ^ k : Nat) : Int) = 2 ^ k := by simp
  have habs : (z * 2 ^ k).natAbs = z.natAbs * 2 ^ k := by rw [Int.natAbs_mul, Int.natAbs_pow]; rfl
  unfold rnd
  rw [habs, key]
  by_cases h : z < 0
  · have : z * 2 ^ k < 0 := Int.mul_neg_of_neg_of_pos h hpos
    rw [if_pos h, if_pos this, Int.natCast_mul, hcast, Int.neg_mul]
  · have : ¬ z * 2 ^ k < 0 := by
      have := Int.mul_nonneg (show 0 ≤ z from by omega) (Int.le_of_lt hpos)
      omega
    rw [if_neg h, if_neg this, Int.natCast_mul, hcast]

/-- how near the rounding is; what divides it -/
theorem rnd_close (hp : 1 ≤ f.fractionBits) {z : Int} {m : Nat} (h : z.natAbs ≤ 2 * f.binade * 2 ^ m) : 2 * (f.rnd z - z).natAbs ≤ 2 ^ m := by
  have key : ∀ z : Int, 0 ≤ z → z.natAbs ≤ 2 * f.binade * 2 ^ m → 2 * (f.rnd z - z).natAbs ≤ 2 ^ m := by
    intro z hz h
    obtain ⟨N, rfl⟩ := Int.eq_ofNat_of_zero_le hz
    rw [Int.natAbs_natCast] at h
    have hmp : 0 < 2 ^ m := Nat.two_pow_pos _
    have hdm := Nat.div_add_mod N (2 ^ m)
    have hml := Nat.mod_lt N hmp
    have fitm : ∀ q : Nat, q ≤ 2 * f.binade → f.Fits ((2 ^ m * q : Nat) : Int) := by
      intro q hq
      have hd : (2 ^ m : Int) ∣ ((2 ^ m * q : Nat) : Int) := by rw [Int.natCast_mul, Int.natCast_pow]; exact Int.dvd_mul_right _ _
      rcases Nat.lt_or_eq_of_le hq with hq | hq
      · exact f.fits_of hd (by rw [Int.natAbs_natCast, Nat.mul_comm]; exact Nat.mul_lt_mul_of_pos_right hq hmp)
      · refine f.fits_of (k := m + 1) ?_ ?_
        · rw [hq, show 2 ^ m * (2 * f.binade) = 2 ^ (m + 1) * f.binade from by rw [Nat.pow_succ, Nat.mul_assoc], Int.natCast_mul, Int.natCast_pow]; exact Int.dvd_mul_right _ _
        · rw [Int.natAbs_natCast, hq, Nat.mul_comm, Nat.pow_succ]
          exact Nat.mul_lt_mul_of_pos_left (by omega) (by have := f.binade_pos; omega)
    have hq : N / 2 ^ m ≤ 2 * f.binade := Nat.div_le_of_le_mul (by rw [Nat.mul_comm]; exact h)
    by_cases hr : 2 * (N % 2 ^ m) ≤ 2 ^ m
    · have := f.rnd_near hp (N : Int) (fitm _ hq)
      omega
    · have hq2 : N / 2 ^ m < 2 * f.binade := by
        rcases Nat.lt_or_eq_of_le hq with h' | h'
        · exact h'
        · rw [h', Nat.mul_comm] at hdm; omega
      have := f.rnd_near hp (N : Int) (fitm _ hq2)
      rw [Nat.mul_succ] at this
      omega
  by_cases h0 : 0 ≤ z
  · exact key z h0 h
  · have := key (-z) (by omega) (by rw [Int.natAbs_neg]; exact h)
    rw [f.rnd_neg] at this; omega

theorem fits_dvd {w : Int} {m : Nat} (hw : f.Fits w) (h : f.binade * 2 ^ m ≤ w.natAbs) : (2 ^ m : Int) ∣ w := by
  obtain ⟨k, hd, hb⟩ := f.fits_form hw
  have hB := f.binade_pos
  have h1 : 2 ^ m < 2 * 2 ^ k := by
    have : f.binade * 2 ^ m < f.binade * (2 * 2 ^ k) := by
      rw [← Nat.mul_assoc, Nat.mul_comm f.binade 2]; omega
    exact Nat.lt_of_mul_lt_mul_left this
  have h2 : m < k + 1 := (Nat.pow_lt_pow_iff_right (a := 2) (by omega)).1 (by rw [Nat.pow_succ]; omega)
  exact Int.dvd_trans (Int.pow_dvd_pow' (by omega)) hd

theorem rnd_big_dvd (hp : 1 ≤ f.fractionBits) {z : Int} {m : Nat} (h : f.binade * 2 ^ m ≤ z.natAbs) : (2 ^ m : Int) ∣ f.rnd z := by
  have hfit : f.Fits ((f.binade * 2 ^ m : Nat) : Int) := by
    refine f.fits_of (k := m) (by rw [Int.natCast_mul, Int.natCast_pow]; exact Int.dvd_mul_left _ _) ?_
    rw [Int.natAbs_natCast]
    exact Nat.mul_lt_mul_of_pos_right (by have := f.binade_pos; omega) (Nat.two_pow_pos _)
  refine f.fits_dvd (f.fits_rnd z) ?_
  by_cases h0 : 0 ≤ z
  · have := f.rnd_mono hp (show ((f.binade * 2 ^ m : Nat) : Int) ≤ z from by omega)
    rw [f.rnd_of_fits hp hfit] at this; omega
  · have := f.rnd_mono hp (show z ≤ -((f.binade * 2 ^ m : Nat) : Int) from by omega)
    rw [f.rnd_neg, f.rnd_of_fits hp hfit] at this; omega
end Format

/-! ### binary64 -/
abbrev dR (z : Int) : Int := double.rnd z
theorem hp52 : 1 ≤ double.fractionBits := by decide

/-- a normal number's halves: 26 bits and 26 bits -/
theorem halves_norm {A : Int} (h1 : 4503599627370496 ≤ A.natAbs) (h2 : A.natAbs < 9007199254740992) :
    ∃ H L : Int, dR (dR (134217729 * A) - dR (dR (134217729 * A) - A)) = H * 134217728 ∧ dR (A - H * 134217728) = L ∧ A = H * 134217728 + L ∧ H.natAbs ≤ 67108864 ∧ L.natAbs ≤ 67108864 := by
  have key : ∀ A : Int, 4503599627370496 ≤ A → A < 9007199254740992 →
      ∃ H L : Int, dR (dR (134217729 * A) - dR (dR (134217729 * A) - A)) = H * 134217728 ∧ dR (A - H * 134217728) = L ∧ A = H * 134217728 + L ∧ H.natAbs ≤ 67108864 ∧ L.natAbs ≤ 67108864 := by
    intro A h1 h2
    have hB : double.binade = 4503599627370496 := by decide
    have p27 : (2 : Nat) ^ 27 = 134217728 := by decide
    have p27i : (2 : Int) ^ 27 = 134217728 := by decide
    have p28 : (2 : Nat) ^ 28 = 268435456 := by decide
    -- c
    have c1 : (134217728 : Int) ∣ dR (134217729 * A) := by
      have := double.rnd_big_dvd hp52 (z := 134217729 * A) (m := 27) (by rw [hB, p27]; omega)
      rwa [p27i] at this
    have c2 : 2 * (dR (134217729 * A) - 134217729 * A).natAbs ≤ 268435456 := by
      have := double.rnd_close hp52 (z := 134217729 * A) (m := 28) (by rw [hB, p28]; omega)
      rwa [p28] at this
    have c3 : A = 4503599627370496 → dR (134217729 * A) = 134217729 * A := by
      intro e
      refine double.rnd_of_fits hp52 (double.fits_of (k := 27) ?_ ?_)
      · rw [p27i, e]; decide
      · rw [hB, p27, e]; decide
    generalize dR (134217729 * A) = c at *
    -- g
    have lo : 604462909807314587353088 ≤ c - A := by
      by_cases e : A = 4503599627370496
      · rw [c3 e, e]; decide
      · omega
    have hi : c - A ≤ 1208925819614629174706176 := by omega
    have g1 : (134217728 : Int) ∣ dR (c - A) := by
      have := double.rnd_big_dvd hp52 (z := c - A) (m := 27) (by rw [hB, p27]; omega)
      rwa [p27i] at this
    have g2 : 2 * (dR (c - A) - (c - A)).natAbs ≤ 134217728 := by
      have := double.rnd_close hp52 (z := c - A) (m := 27) (by rw [hB, p27]; omega)
      rwa [p27] at this
    generalize dR (c - A) = g at *
    obtain ⟨H, hH⟩ : (134217728 : Int) ∣ c - g := Int.dvd_sub c1 g1
    have hHb : H.natAbs ≤ 67108864 := by omega
    have hfit : double.Fits (c - g) := by
      refine double.fits_of (k := 27) (by rw [p27i]; exact ⟨H, hH⟩) (by rw [hB, p27]; omega)
    refine ⟨H, A - H * 134217728, ?_, ?_, by omega, hHb, by omega⟩
    · rw [show dR (c - g) = c - g from double.rnd_of_fits hp52 hfit, hH, Int.mul_comm]
    · refine double.rnd_of_fits hp52 (double.fits_of (k := 0) (by simp) ?_)
      rw [hB, Nat.pow_zero]; omega
  by_cases h0 : 0 ≤ A
  · exact key A (by omega) (by omega)
  · obtain ⟨H, L, a, b, c, d, e⟩ := key (-A) (by omega) (by omega)
    rw [show 134217729 * -A = -(134217729 * A) from by omega] at a
    unfold dR at a b
    rw [double.rnd_neg, show -double.rnd (134217729 * A) - -A = -(double.rnd (134217729 * A) - A) from by omega, double.rnd_neg,
      show -double.rnd (134217729 * A) - -double.rnd (double.rnd (134217729 * A) - A) = -(double.rnd (134217729 * A) - double.rnd (double.rnd (134217729 * A) - A)) from by omega, double.rnd_neg] at a
    refine ⟨-H, -L, ?_, ?_, by omega, by omega, by omega⟩
    · unfold dR; omega
    · unfold dR
      rw [show A - -H * 134217728 = -(-A - H * 134217728) from by omega, double.rnd_neg, b]

theorem mul_le {a b : Int} {m n : Nat} (ha : a.natAbs ≤ m) (hb : b.natAbs ≤ n) : (a * b).natAbs ≤ m * n := by
  rw [Int.natAbs_mul]; exact Nat.mul_le_mul ha hb

/-- what the rounded product leaves, by the five operations -/
theorem product_norm {A B H L K M : Int} (a1 : 4503599627370496 ≤ A.natAbs) (a2 : A.natAbs < 9007199254740992) (b1 : 4503599627370496 ≤ B.natAbs) (b2 : B.natAbs < 9007199254740992)
    (hA : A = H * 134217728 + L) (hB' : B = K * 134217728 + M) (hH : H.natAbs ≤ 67108864) (hL : L.natAbs ≤ 67108864) (hK : K.natAbs ≤ 67108864) (hM : M.natAbs ≤ 67108864) :
    dR (H * 134217728 * (K * 134217728)) = H * 134217728 * (K * 134217728) ∧ dR (H * 134217728 * M) = H * 134217728 * M ∧ dR (L * (K * 134217728)) = L * (K * 134217728) ∧ dR (L * M) = L * M ∧
    dR (dR (dR (dR (H * 134217728 * (K * 134217728) - dR (A * B)) + H * 134217728 * M) + L * (K * 134217728)) + L * M) = A * B - dR (A * B) ∧ double.Fits (A * B - dR (A * B)) := by
  have hB : double.binade = 4503599627370496 := by decide
  have hHK := mul_le hH hK
  have hHM := mul_le hH hM
  have hLK := mul_le hL hK
  have hLM := mul_le hL hM
  have e1 : H * 134217728 * (K * 134217728) = H * K * 18014398509481984 := by grind
  have e2 : H * 134217728 * M = H * M * 134217728 := by grind
  have e3 : L * (K * 134217728) = L * K * 134217728 := by grind
  have hP : A * B = H * K * 18014398509481984 + H * M * 134217728 + L * K * 134217728 + L * M := by rw [hA, hB']; grind
  have hPlo : 20282409603651670423947251286016 ≤ (A * B).natAbs := by
    rw [Int.natAbs_mul]
    calc 20282409603651670423947251286016 = 4503599627370496 * 4503599627370496 := by decide
      _ ≤ A.natAbs * B.natAbs := Nat.mul_le_mul a1 b1
  have hPhi : (A * B).natAbs ≤ 81129638414606681695789005144064 := by
    rw [Int.natAbs_mul]
    calc A.natAbs * B.natAbs ≤ 9007199254740992 * 9007199254740992 := Nat.mul_le_mul (by omega) (by omega)
      _ = 81129638414606681695789005144064 := by decide
  have p52 : (2 : Nat) ^ 52 = 4503599627370496 := by decide
  have p53 : (2 : Nat) ^ 53 = 9007199254740992 := by decide
  have p54 : (2 : Nat) ^ 54 = 18014398509481984 := by decide
  have p27 : (2 : Nat) ^ 27 = 134217728 := by decide
  have i52 : (2 : Int) ^ 52 = 4503599627370496 := by decide
  have i54 : (2 : Int) ^ 54 = 18014398509481984 := by decide
  have i27 : (2 : Int) ^ 27 = 134217728 := by decide
  have d1 : (4503599627370496 : Int) ∣ dR (A * B) := by
    have := double.rnd_big_dvd hp52 (z := A * B) (m := 52) (by rw [hB, p52]; omega)
    rwa [i52] at this
  have d2 : 2 * (dR (A * B) - A * B).natAbs ≤ 9007199254740992 := by
    have := double.rnd_close hp52 (z := A * B) (m := 53) (by rw [hB, p53]; omega)
    rwa [p53] at this
  rw [e1, e2, e3]
  generalize dR (A * B) = p at *
  generalize A * B = P at *
  generalize H * K = HK at *
  generalize H * M = HM at *
  generalize L * K = LK at *
  generalize L * M = LM at *
  have fit : ∀ {z : Int} (k : Nat) (q : Int), (2 ^ k : Int) = q → q ∣ z → z.natAbs < 9007199254740992 * 2 ^ k → double.Fits z := by
    intro z k q hq hd hb
    exact double.fits_of (k := k) (by rw [hq]; exact hd) (by rw [hB]; exact hb)
  have f1 : double.Fits (HK * 18014398509481984) := fit 54 _ i54 (Int.dvd_mul_left _ _) (by rw [p54]; omega)
  have f2 : double.Fits (HM * 134217728) := fit 27 _ i27 (Int.dvd_mul_left _ _) (by rw [p27]; omega)
  have f3 : double.Fits (LK * 134217728) := fit 27 _ i27 (Int.dvd_mul_left _ _) (by rw [p27]; omega)
  have f4 : double.Fits LM := fit 0 1 (by simp) (Int.one_dvd _) (by rw [Nat.pow_zero]; omega)
  have t2 : double.Fits (HK * 18014398509481984 - p) := by
    refine fit 52 _ i52 ?_ (by rw [p52]; omega)
    exact Int.dvd_sub ⟨HK * 4, by omega⟩ d1
  have t3 : double.Fits (HK * 18014398509481984 - p + HM * 134217728) := by
    refine fit 27 _ i27 ?_ (by rw [p27]; omega)
    obtain ⟨q, hq⟩ := d1
    exact ⟨HK * 134217728 - q * 33554432 + HM, by omega⟩
  have small : ∀ z : Int, z.natAbs ≤ 9007199254740992 → double.Fits z := by
    intro z hz
    by_cases h : z.natAbs < 9007199254740992
    · exact fit 0 1 (by simp) (Int.one_dvd _) (by rw [Nat.pow_zero]; omega)
    · exact fit 1 2 (by decide) (by omega) (by omega)
  have t4 : double.Fits (HK * 18014398509481984 - p + HM * 134217728 + LK * 134217728) := small _ (by omega)
  have t5 : double.Fits (HK * 18014398509481984 - p + HM * 134217728 + LK * 134217728 + LM) := small _ (by omega)
  have ex : ∀ {z : Int}, double.Fits z → dR z = z := fun h => double.rnd_of_fits hp52 h
  rw [ex t2, ex t3, ex t4, ex t5]
  refine ⟨ex f1, ex f2, ex f3, ex f4, by omega, ?_⟩
  rw [show HK * 18014398509481984 - p + HM * 134217728 + LK * 134217728 + LM = P - p from by omega] at t5
  exact t5
end Ieee
