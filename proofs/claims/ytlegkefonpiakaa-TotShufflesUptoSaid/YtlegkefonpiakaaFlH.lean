/- Plain law of binary64: operations on words, said of whole numbers of units. Conditions: finite operands, no overflow. -/
import Derived.Test.YtlegkefonpiakaaFlG
import Derived.Test.YtlegkefonpiakaaFlC
namespace Ieee

/-- a bound far below overflow -/
def bigE : Nat := 2000
def big : Nat := 2 ^ bigE

/-- finite words, and what they are worth in units -/
def FinW (w : Nat) : Prop := w < 18446744073709551616 ∧ double.rung w < double.infRung
def V (w : Nat) : Int := double.sval w

theorem V_fits {w : Nat} : double.Fits (V w) := by
  unfold V Format.sval; split
  · exact double.fits_neg (double.fits_unit _)
  · exact double.fits_unit _

theorem V_abs (w : Nat) : (V w).natAbs = double.unit (double.rung w) := by
  unfold V Format.sval; split <;> omega

theorem V_word (s : Bool) {R : Nat} (h : R < double.infRung) : V (double.word s R) = if s then -(double.unit R : Int) else (double.unit R : Int) := by
  have h2 : R < double.signWeight := Nat.lt_trans h (by decide)
  unfold V Format.sval
  rw [double.rung_word s h2, double.neg_word s h2]

theorem finw_word (s : Bool) {R : Nat} (h : R < double.infRung) : FinW (double.word s R) := by
  have h2 : R < double.signWeight := Nat.lt_trans h (by decide)
  refine ⟨?_, by rw [double.rung_word s h2]; exact h⟩
  have e : double.signWeight = 9223372036854775808 := by decide
  have e2 : double.infRung = 9218868437227405312 := by decide
  unfold Format.word
  rw [e2] at h
  rw [e]
  split <;> omega

theorem nr_big {z : Int} (h : z.natAbs ≤ big) : double.nr z.natAbs < double.infRung := by
  have h1 := double.nr_mono (by decide) h
  have hu : double.unit (double.fl big) = big := double.unit_fl_of_dvd' (m := 1) (k := bigE) (by unfold big; rw [Nat.one_mul]) (by decide)
  have h2 : double.nr big = double.fl big := by
    have := double.nr_unit (by decide) (double.fl big)
    rwa [hu] at this
  have h3 : double.fl big < double.infRung := by
    rw [← double.unit_lt_iff, hu]
    have : double.unit double.infRung = 2 ^ top64 := by decide +kernel
    rw [this]
    exact Nat.pow_lt_pow_right (by omega) (by decide)
  omega

/-- the word of a whole number of units -/
def wordOf (z : Int) : Nat := double.word (decide (z < 0)) (double.nr z.natAbs)

theorem V_wordOf {z : Int} (h : z.natAbs ≤ big) : V (wordOf z) = dR z ∧ FinW (wordOf z) := by
  have h1 := nr_big h
  refine ⟨?_, finw_word _ h1⟩
  unfold wordOf
  rw [V_word _ h1]
  unfold dR Format.rnd
  by_cases h0 : z < 0
  · simp [h0]
  · simp [h0]

/-- two finite words of one worth, not 0, are one -/
theorem word_unique {a b : Nat} (ha : FinW a) (hb : FinW b) (h : V a = V b) (h0 : V a ≠ 0) : a = b := by
  have e : 2 * double.signWeight = 18446744073709551616 := by decide
  have h1 := double.word_eq (w := a) (by rw [e]; exact ha.1)
  have h2 := double.word_eq (w := b) (by rw [e]; exact hb.1)
  have h3 := V_abs a
  have h4 := V_abs b
  have hr : double.rung a = double.rung b := double.unit_inj (by rw [← h3, ← h4, h])
  have hn : double.neg a = double.neg b := by
    unfold V Format.sval at h h0
    rw [hr] at h h0
    cases x : double.neg a <;> cases y : double.neg b <;> rw [x] at h h0 <;> rw [y] at h <;> simp at h h0 ⊢ <;> omega
  rw [← h1, ← h2, hr, hn]

/-- a sum of finite words -/
theorem add_V {x y : Nat} (hx : FinW x) (hy : FinW y) (hb : (V x + V y).natAbs ≤ big) :
    double.add x y = some (double.word (if V x + V y = 0 then double.neg x && double.neg y else decide (V x + V y < 0)) (double.nr (V x + V y).natAbs)) := by
  obtain ⟨m, i, hr, hm, _⟩ := double.read_fin hx.2
  obtain ⟨n, j, hr', hn, _⟩ := double.read_fin hy.2
  unfold Format.add
  rw [hr, hr']
  simp only [Datum.sum, Option.map_some]
  congr 1
  generalize hbs : min (double.leastPlace + (i : Nat)) (double.leastPlace + (j : Nat)) = base
  obtain ⟨b, hb'⟩ : ∃ b : Nat, base = double.leastPlace + (b : Nat) := ⟨min i j, by omega⟩
  have e1 : signed (double.neg x) m (double.leastPlace + (i : Nat) - base).toNat * 2 ^ b = V x := by
    rw [← Format.signed_scale, Format.signed_eq]
    have : (double.leastPlace + (i : Nat) - base).toNat + b = i := by omega
    rw [this, hm]; rfl
  have e2 : signed (double.neg y) n (double.leastPlace + (j : Nat) - base).toNat * 2 ^ b = V y := by
    rw [← Format.signed_scale, Format.signed_eq]
    have : (double.leastPlace + (j : Nat) - base).toNat + b = j := by omega
    rw [this, hn]; rfl
  generalize signed (double.neg x) m (double.leastPlace + (i : Nat) - base).toNat = X at *
  generalize signed (double.neg y) n (double.leastPlace + (j : Nat) - base).toNat = Y at *
  have hp : (0 : Int) < 2 ^ b := Int.pow_pos (by omega)
  have hs : (X + Y) * 2 ^ b = V x + V y := by rw [Int.add_mul, e1, e2]
  have z1 : (X + Y = 0) ↔ (V x + V y = 0) := by
    rw [← hs]; constructor
    · intro h; rw [h, Int.zero_mul]
    · intro h; rcases Int.mul_eq_zero.1 h with h | h
      · exact h
      · omega
  have z2 : (X + Y < 0) ↔ (V x + V y < 0) := by
    rw [← hs]; constructor
    · intro h; exact Int.mul_neg_of_neg_of_pos h hp
    · intro h
      rcases Int.lt_or_le (X + Y) 0 with h' | h'
      · exact h'
      · have := Int.mul_nonneg h' (Int.le_of_lt hp); omega
  have z3 : (X + Y).natAbs * 2 ^ b = (V x + V y).natAbs := by
    rw [← hs, Int.natAbs_mul, Int.natAbs_pow]; rfl
  show double.nearest _ _ _ = _
  rw [hb', double.nearest_at, z3, Nat.min_eq_left (Nat.le_of_lt (nr_big hb))]
  simp only [z1, z2]

theorem add_some {x y : Nat} (hx : FinW x) (hy : FinW y) (hb : (V x + V y).natAbs ≤ big) : ∃ r, double.add x y = some r ∧ FinW r ∧ V r = dR (V x + V y) := by
  refine ⟨_, add_V hx hy hb, finw_word _ (nr_big hb), ?_⟩
  rw [V_word _ (nr_big hb)]
  unfold dR Format.rnd
  by_cases h0 : V x + V y = 0
  · rw [h0]
    have : double.nr (0 : Int).natAbs = 0 := double.nr_zero
    rw [this, double.unit_zero]
    cases double.neg x && double.neg y <;> simp
  · rw [if_neg h0]
    by_cases h1 : V x + V y < 0
    · simp [h1]
    · simp [h1]

/-- a word read by its sign and rung -/
def readAt (n : Bool) (r : Nat) : Datum :=
  if r < double.binade then .number n r double.leastPlace
  else if r < double.infRung then .number n (double.binade + r % double.binade) (double.leastPlace + (r / double.binade - 1 : Nat))
  else if r = double.infRung then .infinity n
  else .nan n (r - double.infRung)
theorem read_readAt (w : Nat) : double.read w = readAt (double.neg w) (double.rung w) := rfl

theorem read_opposite {y : Nat} (hy : FinW y) : (double.read y).opposite = double.read (double.word (!double.neg y) (double.rung y)) := by
  have h2 : double.rung y < double.signWeight := Nat.lt_trans hy.2 (by decide)
  rw [read_readAt, read_readAt, double.rung_word _ h2, double.neg_word _ h2]
  unfold readAt
  by_cases h1 : double.rung y < double.binade
  · rw [if_pos h1, if_pos h1]; rfl
  · rw [if_neg h1, if_neg h1, if_pos hy.2, if_pos hy.2]; rfl

theorem sub_some {x y : Nat} (hx : FinW x) (hy : FinW y) (hb : (V x - V y).natAbs ≤ big) : ∃ r, double.sub x y = some r ∧ FinW r ∧ V r = dR (V x - V y) := by
  have hy' : FinW (double.word (!double.neg y) (double.rung y)) := finw_word _ hy.2
  have hv : V (double.word (!double.neg y) (double.rung y)) = -V y := by
    rw [V_word _ hy.2]
    unfold V Format.sval
    cases double.neg y <;> simp
  have : double.sub x y = double.add x (double.word (!double.neg y) (double.rung y)) := by
    unfold Format.sub Format.add; rw [read_opposite hy]
  rw [this]
  have h := add_some hx hy' (by rw [hv, ← Int.sub_eq_add_neg]; exact hb)
  rwa [hv, ← Int.sub_eq_add_neg] at h

theorem place_d : double.leastPlace = -1074 := by decide
def deepD : Nat := 1074

/-- a product of finite words, at a whole place -/
theorem mul_some {x y : Nat} (hx : FinW x) (hy : FinW y) {M : Int} (hM : V x * V y = M * 2 ^ deepD) (hb : M.natAbs ≤ big) : ∃ r, double.mul x y = some r ∧ FinW r ∧ V r = dR M := by
  obtain ⟨m, i, hr, hm, _⟩ := double.read_fin hx.2
  obtain ⟨n, j, hr', hn, _⟩ := double.read_fin hy.2
  unfold Format.mul
  rw [hr, hr']
  simp only [Datum.product, Option.map_some]
  refine ⟨_, rfl, ?_⟩
  have habs : m * n * 2 ^ (i + j) = M.natAbs * 2 ^ deepD := by
    have h1 : (V x * V y).natAbs = M.natAbs * 2 ^ deepD := by rw [hM, Int.natAbs_mul, Int.natAbs_pow, show (2 : Int).natAbs = 2 from rfl]
    rw [Int.natAbs_mul, V_abs, V_abs, ← hm, ← hn] at h1
    rw [← h1, Nat.pow_add]
    simp only [Nat.mul_assoc, Nat.mul_left_comm]
  have hw : double.write (.number (double.neg x ^^ double.neg y) (m * n) (double.leastPlace + (i : Nat) + (double.leastPlace + (j : Nat)))) = double.word (double.neg x ^^ double.neg y) (double.nr M.natAbs) := by
    show double.nearest _ _ _ = _
    rw [show double.leastPlace + (i : Nat) + (double.leastPlace + (j : Nat)) = (double.leastPlace + double.leastPlace) + ((i + j : Nat) : Int) from by omega, ← double.nearest_scale, habs, double.nearest_scale,
      show double.leastPlace + double.leastPlace + (deepD : Nat) = double.leastPlace from by rw [place_d]; decide, double.nearest_least, Nat.min_eq_left (Nat.le_of_lt (nr_big hb))]
  rw [hw]
  refine ⟨finw_word _ (nr_big hb), ?_⟩
  rw [V_word _ (nr_big hb)]
  unfold dR Format.rnd
  by_cases h0 : M = 0
  · subst h0
    have : double.nr (0 : Int).natAbs = 0 := double.nr_zero
    rw [this, double.unit_zero]
    cases double.neg x ^^ double.neg y <;> simp
  · have hp : (0 : Int) < 2 ^ deepD := Int.pow_pos (by omega)
    have hsx : V x ≠ 0 ∧ V y ≠ 0 := by
      constructor
      · intro e; rw [e, Int.zero_mul] at hM
        rcases Int.mul_eq_zero.1 hM.symm with h | h
        · exact h0 h
        · omega
      · intro e; rw [e, Int.mul_zero] at hM
        rcases Int.mul_eq_zero.1 hM.symm with h | h
        · exact h0 h
        · omega
    have hnx : double.neg x = decide (V x < 0) := by
      have := hsx.1
      unfold V Format.sval at this ⊢
      cases double.neg x <;> simp at this ⊢ <;> omega
    have hny : double.neg y = decide (V y < 0) := by
      have := hsx.2
      unfold V Format.sval at this ⊢
      cases double.neg y <;> simp at this ⊢ <;> omega
    have hsign : (double.neg x ^^ double.neg y) = decide (M < 0) := by
      rw [hnx, hny]
      have hMs : (M < 0) ↔ (V x * V y < 0) := by
        rw [hM]; constructor
        · intro h; exact Int.mul_neg_of_neg_of_pos h hp
        · intro h
          rcases Int.lt_or_le M 0 with h' | h'
          · exact h'
          · have := Int.mul_nonneg h' (Int.le_of_lt hp); omega
      by_cases a : V x < 0 <;> by_cases b : V y < 0
      · have : 0 < V x * V y := Int.mul_pos_of_neg_of_neg a b
        simp [a, b, hMs]; omega
      · have : V x * V y < 0 := Int.mul_neg_of_neg_of_pos a (by omega)
        simp [a, b, hMs]; omega
      · have : V x * V y < 0 := Int.mul_neg_of_pos_of_neg (by omega) b
        simp [a, b, hMs]; omega
      · have : 0 < V x * V y := Int.mul_pos (by omega) (by omega)
        simp [a, b, hMs]; omega
    rw [hsign]
    by_cases h1 : M < 0 <;> simp [h1]

/-- how finite words compare -/
theorem order_V {x y : Nat} (hx : FinW x) (hy : FinW y) : double.order x y = some (compare (V x) (V y)) := by
  rw [double.order_eq ok_double (Nat.le_of_lt hx.2) (Nat.le_of_lt hy.2), ← double.compare_sval]; rfl
end Ieee
