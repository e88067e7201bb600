/- Plain law of binary64: whole numbers of words, words of whole numbers. Conditions: finite words, far below overflow. -/
import Derived.Test.YtlegkefonpiakaaFlI
import Derived.Laws.FloatArith
namespace Ieee
theorem place_deep : double.leastPlace = -((deepD : Nat) : Int) := by rw [place_d]; rfl
theorem zero_deep : (0 : Int) = double.leastPlace + ((deepD : Nat) : Int) := by rw [place_d]; rfl
theorem deep_le : 53 + deepD ≤ 2000 := by decide
def wideE : Nat := 900
theorem wide_le : wideE + deepD ≤ bigE := by decide
theorem wide_53 : 53 ≤ wideE := by decide
attribute [local irreducible] deepD wideE bigE

theorem shl_eq (n k : Nat) : n <<< k = n * 2 ^ k := Nat.shiftLeft_eq n k
theorem cut_parts (n d : Nat) : n / (1 <<< min d (n.log2 + 2)) = n / 2 ^ d ∧ (n % (1 <<< min d (n.log2 + 2)) != 0) = (n % 2 ^ d != 0) := by
  rw [shl_eq, Nat.one_mul]
  rcases Nat.lt_or_ge (n.log2 + 2) d with h | h
  · rw [Nat.min_eq_right (by omega)]
    have h1 : n < 2 ^ (n.log2 + 2) := Nat.lt_of_lt_of_le Nat.lt_log2_self (Nat.pow_le_pow_right (by omega) (by omega))
    have h2 : n < 2 ^ d := Nat.lt_of_lt_of_le h1 (Nat.pow_le_pow_right (by omega) (by omega))
    rw [Nat.div_eq_of_lt h1, Nat.div_eq_of_lt h2, Nat.mod_eq_of_lt h1, Nat.mod_eq_of_lt h2]
    exact ⟨rfl, rfl⟩
  · rw [Nat.min_eq_left h]; exact ⟨rfl, rfl⟩
theorem cut_down (s : Bool) (n d : Nat) : Toward.down.cut s n d = n / 2 ^ d + (s && (n % 2 ^ d != 0)).toNat := by
  obtain ⟨h1, h2⟩ := cut_parts n d
  unfold Toward.cut
  simp only [h1, h2]
theorem cut_zero (s : Bool) (n d : Nat) : Toward.zero.cut s n d = n / 2 ^ d := by
  obtain ⟨h1, h2⟩ := cut_parts n d
  unfold Toward.cut
  simp only [h1, Bool.toNat_false, Nat.add_zero]

/-- a magnitude's whole part, at its place -/
theorem whole_parts (m k D : Nat) : m <<< ((-(D : Int)) + (k : Int)).toNat / 2 ^ (-((-(D : Int)) + (k : Int))).toNat = m * 2 ^ k / 2 ^ D ∧ (m <<< ((-(D : Int)) + (k : Int)).toNat % 2 ^ (-((-(D : Int)) + (k : Int))).toNat != 0) = (m * 2 ^ k % 2 ^ D != 0) := by
  rw [shl_eq]
  have hD : 0 < 2 ^ D := Nat.two_pow_pos _
  rcases Nat.lt_or_ge k D with h | h
  · obtain ⟨j, rfl⟩ : ∃ j, D = j + k := ⟨D - k, by omega⟩
    have hk : 0 < 2 ^ k := Nat.two_pow_pos _
    rw [show ((-((j + k : Nat) : Int)) + (k : Int)).toNat = 0 from by omega, show (-((-((j + k : Nat) : Int)) + (k : Int))).toNat = j from by omega, Nat.pow_zero, Nat.mul_one, Nat.pow_add, Nat.mul_div_mul_right _ _ hk, Nat.mul_mod_mul_right]
    refine ⟨rfl, ?_⟩
    rw [Bool.eq_iff_iff, bne_iff_ne, bne_iff_ne]
    constructor
    · intro h1 h2
      rcases Nat.mul_eq_zero.1 h2 with h3 | h3
      · exact h1 h3
      · omega
    · intro h1 h2; apply h1; rw [h2, Nat.zero_mul]
  · obtain ⟨j, rfl⟩ : ∃ j, k = D + j := ⟨k - D, by omega⟩
    rw [show ((-((D : Nat) : Int)) + ((D + j : Nat) : Int)).toNat = j from by omega, show (-((-((D : Nat) : Int)) + ((D + j : Nat) : Int))).toNat = 0 from by omega, Nat.pow_zero, Nat.div_one, Nat.mod_one]
    rw [show m * 2 ^ (D + j) = m * 2 ^ j * 2 ^ D from by rw [Nat.pow_add, Nat.mul_comm (2 ^ D), Nat.mul_assoc], Nat.mul_div_cancel _ hD, Nat.mul_mod_left]
    exact ⟨rfl, rfl⟩

theorem floor_neg {Z D : Nat} (hD : 0 < D) : -(Z : Int) / (D : Int) = -((Z / D + (Z % D != 0).toNat : Nat) : Int) := by
  have hdm := Nat.div_add_mod Z D
  have hml := Nat.mod_lt Z hD
  generalize hq : Z / D = q at *
  generalize hr : Z % D = r at *
  have hZ : (Z : Int) = D * q + r := by exact_mod_cast hdm.symm
  by_cases h0 : r = 0
  · subst h0
    rw [hZ]
    have : -((D : Int) * q + ((0 : Nat) : Int)) = (-(q : Int)) * D := by rw [Int.neg_mul, Int.mul_comm]; simp
    rw [this, Int.mul_ediv_cancel _ (by omega)]; simp
  · have h1 : (r != 0) = true := by simpa using h0
    rw [h1]
    apply Int.le_antisymm
    · have : -(Z : Int) / (D : Int) < -((q : Int) + 1) + 1 := by
        rw [Int.ediv_lt_iff_lt_mul (by omega), hZ]
        have : (-((q : Int) + 1) + 1) * (D : Int) = -(D * q) := by
          rw [show (-((q : Int) + 1) + 1) = -(q : Int) from by omega, Int.neg_mul, Int.mul_comm]
        rw [this]; omega
      have e : ((q + true.toNat : Nat) : Int) = (q : Int) + 1 := by simp
      rw [e]; omega
    · rw [Int.le_ediv_iff_mul_le (by omega), hZ]
      have e : -((q + true.toNat : Nat) : Int) * (D : Int) = -(D * q) - D := by
        have : ((q + true.toNat : Nat) : Int) = (q : Int) + 1 := by simp
        rw [this, Int.neg_mul, Int.add_mul, Int.one_mul, Int.mul_comm]; omega
      rw [e]; omega

theorem fits_int {n : Int} (h : n.natAbs < 9007199254740992) : double.Fits (n * 2 ^ deepD) := by
  refine double.fits_of (k := deepD) (Int.dvd_mul_left _ _) ?_
  rw [Int.natAbs_mul, Int.natAbs_pow]
  have h1 : 2 * double.binade = 9007199254740992 := by decide
  rw [h1]
  exact Nat.mul_lt_mul_of_pos_right h (Nat.two_pow_pos _)

/-- the word of a whole number -/
theorem ofInt_word {n : Int} (h : n.natAbs ≤ 2 ^ wideE) : double.write (.number (decide (n < 0)) n.natAbs 0) = wordOf (n * 2 ^ deepD) := by
  have hD : (0 : Int) < 2 ^ deepD := Int.pow_pos (by omega)
  show double.nearest _ _ _ = _
  have e : (0 : Int) = double.leastPlace + ((deepD : Nat) : Int) := zero_deep
  have hb : (n * 2 ^ deepD).natAbs = n.natAbs * 2 ^ deepD := by rw [Int.natAbs_mul, Int.natAbs_pow]; rfl
  have hbig : (n * 2 ^ deepD).natAbs ≤ big := by
    rw [hb]
    refine Nat.le_trans (Nat.mul_le_mul_right _ h) ?_
    rw [← Nat.pow_add]; unfold big; exact Nat.pow_le_pow_right (by omega) wide_le
  have hlt := nr_big hbig
  rw [hb] at hlt
  rw [double.nearest_near, e, near_at, Nat.min_eq_left (Nat.le_of_lt hlt)]
  unfold wordOf
  rw [hb, ← e]
  congr 1
  rw [decide_eq_decide]
  constructor
  · intro h1; exact Int.mul_neg_of_neg_of_pos h1 hD
  · intro h1
    rcases Int.lt_or_le n 0 with h' | h'
    · exact h'
    · have := Int.mul_nonneg h' (Int.le_of_lt hD); omega
theorem ofInt_V {n : Int} (h : n.natAbs < 9007199254740992) : FinW (double.write (.number (decide (n < 0)) n.natAbs 0)) ∧ V (double.write (.number (decide (n < 0)) n.natAbs 0)) = n * 2 ^ deepD := by
  have hb : n.natAbs ≤ 2 ^ wideE := by
    have : (9007199254740992 : Nat) ≤ 2 ^ wideE := by
      rw [show (9007199254740992 : Nat) = 2 ^ 53 from by decide]; exact Nat.pow_le_pow_right (by omega) wide_53
    omega
  rw [ofInt_word hb]
  have hbig : (n * 2 ^ deepD).natAbs ≤ big := by
    rw [Int.natAbs_mul, Int.natAbs_pow]
    refine Nat.le_trans (Nat.mul_le_mul_right _ hb) ?_
    show 2 ^ wideE * 2 ^ deepD ≤ big
    rw [← Nat.pow_add]; unfold big; exact Nat.pow_le_pow_right (by omega) wide_le
  obtain ⟨h1, h2⟩ := V_wordOf hbig
  exact ⟨h2, by rw [h1]; exact double.rnd_of_fits hp52 (fits_int h)⟩

/-- the number below -/
theorem floor_some {x : Nat} (hx : FinW x) (h : (V x).natAbs ≤ 4503599627370496 * 2 ^ deepD) :
    FinW (double.write ((double.read x).integral .down)) ∧ V (double.write ((double.read x).integral .down)) = V x / 2 ^ deepD * 2 ^ deepD := by
  have hD : 0 < 2 ^ deepD := Nat.two_pow_pos _
  have hread := read_mg hx.2
  have hV : V x = if double.neg x then -((mg (double.rung x) * 2 ^ pl (double.rung x) : Nat) : Int) else ((mg (double.rung x) * 2 ^ pl (double.rung x) : Nat) : Int) := by
    rw [mg_unit]; rfl
  rw [V_abs, ← mg_unit] at h
  rw [hread, hV]
  generalize double.neg x = s at *
  generalize mg (double.rung x) = m at *
  generalize pl (double.rung x) = k at *
  have hpl : double.leastPlace = -((deepD : Nat) : Int) := place_deep
  simp only [Datum.integral, cut_down]
  rw [hpl]
  obtain ⟨w1, w2⟩ := whole_parts m k deepD
  rw [w1, w2]
  generalize m * 2 ^ k = Z at *
  clear w1 w2 hread hV hpl
  have hq : Z / 2 ^ deepD ≤ 4503599627370496 := by
    refine Nat.div_le_of_le_mul ?_
    rw [Nat.mul_comm]; exact h
  have hfl : (if s = true then -(Z : Int) else (Z : Int)) / 2 ^ deepD = if s = true then -((Z / 2 ^ deepD + (Z % 2 ^ deepD != 0).toNat : Nat) : Int) else ((Z / 2 ^ deepD : Nat) : Int) := by
    rw [← pow_cast]
    cases s
    · simp
    · simp only [if_true]; exact floor_neg hD
  rw [hfl]
  generalize Z / 2 ^ deepD = q at *
  generalize (Z % 2 ^ deepD != 0) = r at *
  have hr : (s && r).toNat ≤ 1 := by cases (s && r) <;> decide
  obtain ⟨c, hc⟩ : ∃ c, q + (s && r).toNat = c := ⟨_, rfl⟩
  have hc53 : c < 9007199254740992 := by omega
  have hcz : (if s = true then -((q + r.toNat : Nat) : Int) else (q : Int)) = if s = true then -(c : Int) else (c : Int) := by
    rw [← hc]; cases s <;> simp
  rw [hc, hcz]
  have hf := fits_int (n := (c : Int)) (by omega)
  obtain ⟨R, hR⟩ := hf
  have hR2 : double.unit R = c * 2 ^ deepD := by rw [hR, Int.natAbs_mul, Int.natAbs_pow]; rfl
  have hnr : double.nr (c * 2 ^ deepD) = R := double.nr_of_unit hp52 hR2
  have hRi : R < double.infRung := by
    refine lt_inf_of_unit (e := 53 + deepD) ?_ deep_le
    rw [hR2, Nat.pow_add]
    exact Nat.mul_le_mul_right _ (by omega)
  have hw : double.write (.number s c 0) = double.word s R := by
    show double.nearest _ _ _ = _
    have e : (0 : Int) = double.leastPlace + ((deepD : Nat) : Int) := zero_deep
    rw [double.nearest_near, e, near_at, hnr, Nat.min_eq_left (Nat.le_of_lt hRi)]
  rw [hw]
  refine ⟨finw_word _ hRi, ?_⟩
  rw [V_word _ hRi, hR2]
  have hcast : ((c * 2 ^ deepD : Nat) : Int) = (c : Int) * 2 ^ deepD := by rw [Int.natCast_mul, pow_cast]
  rw [hcast]
  cases s
  · simp
  · simp only [if_true, Int.neg_mul]

/-- a word that is a whole number, as that -/
theorem toInt_word {y : Nat} (hy : FinW y) {n : Int} (h : V y = n * 2 ^ deepD) : (double.read y).toInt .zero = some n := by
  have hD : 0 < 2 ^ deepD := Nat.two_pow_pos _
  have hread := read_mg hy.2
  have hV : V y = if double.neg y then -((mg (double.rung y) * 2 ^ pl (double.rung y) : Nat) : Int) else ((mg (double.rung y) * 2 ^ pl (double.rung y) : Nat) : Int) := by
    rw [mg_unit]; rfl
  rw [hV] at h
  rw [hread]
  generalize double.neg y = s at *
  generalize mg (double.rung y) = m at *
  generalize pl (double.rung y) = k at *
  have hpl : double.leastPlace = -((deepD : Nat) : Int) := place_deep
  unfold Datum.toInt
  simp only [Datum.integral, cut_zero]
  rw [hpl]
  obtain ⟨w1, _⟩ := whole_parts m k deepD
  rw [w1]
  generalize m * 2 ^ k = Z at *
  clear w1 hread hV hpl
  rw [← pow_cast] at h
  generalize 2 ^ deepD = D at *
  have hDi : (0 : Int) < (D : Int) := by omega
  unfold signed
  simp only [shl_eq, Nat.pow_zero, Nat.mul_one]
  congr 1
  cases s
  · simp only [Bool.false_eq_true, if_false] at h ⊢
    have h1 : n = (Z : Int) / (D : Int) := by rw [h, Int.mul_ediv_cancel _ (by omega)]
    rw [h1]; rfl
  · simp only [if_true] at h ⊢
    have h2 : (Z : Int) = (-n) * D := by rw [Int.neg_mul]; omega
    have h1 : -n = (Z : Int) / (D : Int) := by rw [h2, Int.mul_ediv_cancel _ (by omega)]
    have h3 : ((Z / D : Nat) : Int) = (Z : Int) / (D : Int) := rfl
    omega
end Ieee
