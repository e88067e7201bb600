/- Plain facts on the rounding of Ieee: the nearest word by rungs; sums, differences, products as rounded whole numbers. Conditions: finite operands; a fraction field of at least one bit. -/
import Derived.Test.YtlegkefonpiakaaFlA
namespace Ieee

/-- n / 2 ^ d to the nearest, ties to even -/
def rne (n d : Nat) : Nat := n / 2 ^ d + (if 2 ^ d < 2 * (n % 2 ^ d) ∨ (2 ^ d = 2 * (n % 2 ^ d) ∧ n / 2 ^ d % 2 = 1) then 1 else 0)

theorem rne_zero (n : Nat) : rne n 0 = n := by
  unfold rne; simp only [Nat.pow_zero, Nat.div_one, Nat.mod_one]; simp

theorem rne_mul (n d : Nat) : rne (n * 2 ^ d) d = n := by
  unfold rne
  have h : 0 < 2 ^ d := Nat.two_pow_pos _
  rw [Nat.mul_div_cancel _ h, Nat.mul_mod_left]
  rw [if_neg (by omega)]; rfl

theorem rne_scale (n d k : Nat) : rne (n * 2 ^ k) (d + k) = rne n d := by
  unfold rne
  have h : 0 < 2 ^ k := Nat.two_pow_pos _
  rw [Nat.pow_add, Nat.mul_div_mul_right _ _ h, Nat.mul_mod_mul_right]
  have e1 : (2 ^ d * 2 ^ k < 2 * (n % 2 ^ d * 2 ^ k)) ↔ (2 ^ d < 2 * (n % 2 ^ d)) := by
    rw [← Nat.mul_assoc]; exact Nat.mul_lt_mul_right h
  have e2 : (2 ^ d * 2 ^ k = 2 * (n % 2 ^ d * 2 ^ k)) ↔ (2 ^ d = 2 * (n % 2 ^ d)) := by
    rw [← Nat.mul_assoc]
    exact ⟨fun e => Nat.eq_of_mul_eq_mul_right h e, fun e => congrArg (· * 2 ^ k) e⟩
  simp only [e1, e2]

theorem cut_even (s : Bool) (n d : Nat) : Toward.even.cut s n d = rne n d := by
  have key : ∀ g, g = min d (n.log2 + 2) → rne n g = rne n d := by
    intro g hg
    by_cases h : d ≤ n.log2 + 2
    · rw [hg, Nat.min_eq_left h]
    · rw [hg, Nat.min_eq_right (by omega)]
      have hn : n < 2 ^ (n.log2 + 1) := Nat.lt_log2_self
      have h1 : 2 ^ (n.log2 + 2) = 2 * 2 ^ (n.log2 + 1) := by rw [Nat.pow_succ 2 (n.log2 + 1)]; omega
      have h2 : 2 ^ (n.log2 + 2) ≤ 2 ^ d := Nat.pow_le_pow_right (by omega) (by omega)
      generalize 2 ^ (n.log2 + 1) = A at *
      unfold rne
      generalize 2 ^ (n.log2 + 2) = A2 at *
      generalize 2 ^ d = D at *
      have a1 : n / A2 = 0 := Nat.div_eq_of_lt (by omega)
      have a2 : n % A2 = n := Nat.mod_eq_of_lt (by omega)
      have a3 : n / D = 0 := Nat.div_eq_of_lt (by omega)
      have a4 : n % D = n := Nat.mod_eq_of_lt (by omega)
      rw [a1, a2, a3, a4, if_neg (by omega), if_neg (by omega)]
  rw [← key _ rfl]
  unfold Toward.cut rne
  simp only [Nat.one_shiftLeft]
  clear key
  generalize min d (n.log2 + 2) = g
  congr 1
  by_cases h1 : 2 ^ g < 2 * (n % 2 ^ g)
  · simp [h1]
  · by_cases h2 : 2 ^ g = 2 * (n % 2 ^ g) ∧ n / 2 ^ g % 2 = 1
    · rw [if_pos (Or.inr h2)]; simp only [h2.2, ← h2.1]; simp
    · rw [if_neg (by omega)]
      have : ¬ ((2 ^ g == 2 * (n % 2 ^ g)) = true ∧ (n / 2 ^ g % 2 == 1) = true) := by
        simpa only [beq_iff_eq] using h2
      simp only [h1, decide_false, Bool.false_or]
      cases hb : (2 ^ g == 2 * (n % 2 ^ g) && n / 2 ^ g % 2 == 1)
      · rfl
      · rw [Bool.and_eq_true] at hb; exact absurd hb this

namespace Format
variable (f : Format)

theorem nearest_scale (s : Bool) (m k : Nat) (e : Int) : f.nearest s (m * 2 ^ k) e = f.nearest s m (e + k) := by
  by_cases hm : m = 0
  · rw [hm, Nat.zero_mul]; rfl
  have hk : 0 < 2 ^ k := Nat.two_pow_pos _
  have hm' : m * 2 ^ k ≠ 0 := Nat.mul_ne_zero hm (by omega)
  have hl : (m * 2 ^ k).log2 = m.log2 + k := by
    rw [Nat.log2_eq_iff hm']
    have h1 := Nat.log2_self_le hm
    have h2 := @Nat.lt_log2_self m
    constructor
    · rw [Nat.pow_add]; exact Nat.mul_le_mul_right _ h1
    · rw [show m.log2 + k + 1 = m.log2 + 1 + k from by omega, Nat.pow_add]; exact Nat.mul_lt_mul_of_pos_right h2 hk
  unfold nearest
  rw [if_neg hm, if_neg hm', hl]
  have el : e + ((m.log2 + k : Nat) : Int) - f.fractionBits = e + k + m.log2 - f.fractionBits := by omega
  dsimp only
  rw [el]
  generalize max (e + k + m.log2 - f.fractionBits) f.leastPlace = last
  simp only [cut_even, Nat.shiftLeft_eq]
  have : rne (m * 2 ^ k * 2 ^ (e - last).toNat) (last - e).toNat = rne (m * 2 ^ (e + k - last).toNat) (last - (e + k)).toNat := by
    rcases Int.lt_or_le e last with h1 | h1
    · rw [show (e - last).toNat = 0 from by omega, Nat.pow_zero, Nat.mul_one]
      rcases Int.lt_or_le (e + k) last with h2 | h2
      · rw [show (e + k - last).toNat = 0 from by omega, Nat.pow_zero, Nat.mul_one]
        rw [show (last - e).toNat = (last - (e + k)).toNat + k from by omega, rne_scale]
      · rw [show (last - (e + k)).toNat = 0 from by omega, rne_zero]
        rw [show k = (e + k - last).toNat + (last - e).toNat from by omega, Nat.pow_add, ← Nat.mul_assoc, rne_mul]
        congr 3; omega
    · rw [show (last - e).toNat = 0 from by omega, show (last - (e + k)).toNat = 0 from by omega, rne_zero, rne_zero]
      rw [Nat.mul_assoc, ← Nat.pow_add]; congr 2; omega
  rw [this]

/-- the rung nearest to a whole number of units -/
def nr (N : Nat) : Nat := (N.log2 - f.fractionBits) * f.binade + rne N (N.log2 - f.fractionBits)

theorem nearest_least (s : Bool) (N : Nat) : f.nearest s N f.leastPlace = f.word s (min (f.nr N) f.infRung) := by
  unfold nearest nr
  by_cases h : N = 0
  · subst h
    rw [if_pos rfl]
    have : Nat.log2 0 = 0 := by decide
    rw [this]; simp [rne]
  · rw [if_neg h]
    dsimp only
    simp only [cut_even, Nat.shiftLeft_eq]
    generalize f.leastPlace = lp
    generalize hL : N.log2 - f.fractionBits = L
    have e1 : max (lp + (N.log2 : Int) - f.fractionBits) lp = lp + L := by omega
    rw [e1]
    rw [show (lp - (lp + (L : Int))).toNat = 0 from by omega, show (lp + (L : Int) - lp).toNat = L from by omega, Nat.pow_zero, Nat.mul_one]

theorem nearest_at (s : Bool) (m k : Nat) : f.nearest s m (f.leastPlace + (k : Nat)) = f.word s (min (f.nr (m * 2 ^ k)) f.infRung) := by
  rw [← nearest_least, nearest_scale]

/-- the rung just not above N -/
def fl (N : Nat) : Nat := (N.log2 - f.fractionBits) * f.binade + N / 2 ^ (N.log2 - f.fractionBits)

theorem unit_at (L q : Nat) (h : L = 0 ∧ q ≤ f.binade ∨ f.binade ≤ q ∧ q < 2 * f.binade) : f.unit (L * f.binade + q) = q * 2 ^ L := by
  have hB := f.binade_pos
  unfold unit
  generalize f.binade = B at *
  by_cases h0 : L = 0 ∧ q < B
  · rw [h0.1]; simp [h0.2]
  · have hq : B ≤ q ∧ q < 2 * B := by omega
    have hqm : q % B = q - B := by rw [Nat.mod_eq_sub_mod hq.1, Nat.mod_eq_of_lt (by omega)]
    have hqd : q / B = 1 := by
      rw [Nat.div_eq_iff hB]; omega
    have e1 : (L * B + q) % B = q - B := by rw [Nat.add_comm, Nat.add_mul_mod_self_right, hqm]
    have e2 : (L * B + q) / B = L + 1 := by rw [Nat.add_comm, Nat.add_mul_div_right _ _ hB, hqd]; omega
    rw [if_neg (by omega), e1, e2]
    congr 1; omega

theorem fl_parts (N : Nat) : f.unit (f.fl N) = N / 2 ^ (N.log2 - f.fractionBits) * 2 ^ (N.log2 - f.fractionBits) ∧ f.gap (f.fl N) = 2 ^ (N.log2 - f.fractionBits) := by
  have hB := f.binade_pos
  have hlog : N < 2 ^ (N.log2 + 1) := Nat.lt_log2_self
  have hbin : f.binade = 2 ^ f.fractionBits := rfl
  unfold fl
  by_cases h : N.log2 ≤ f.fractionBits
  · rw [Nat.sub_eq_zero_of_le h]
    have hN : N < 2 * f.binade := by
      have : 2 ^ (N.log2 + 1) ≤ 2 ^ (f.fractionBits + 1) := Nat.pow_le_pow_right (by omega) (by omega)
      rw [Nat.pow_succ 2 f.fractionBits] at this; rw [hbin]; exact Nat.lt_of_lt_of_le hlog (by omega)
    have hq0 : 0 = 0 ∧ N / 2 ^ 0 ≤ f.binade ∨ f.binade ≤ N / 2 ^ 0 ∧ N / 2 ^ 0 < 2 * f.binade := by
      rw [Nat.pow_zero, Nat.div_one]
      rcases Nat.lt_or_ge N f.binade with h' | h'
      · exact Or.inl ⟨rfl, Nat.le_of_lt h'⟩
      · exact Or.inr ⟨h', hN⟩
    rw [f.unit_at 0 (N / 2 ^ 0) hq0]
    refine ⟨rfl, ?_⟩
    unfold gap
    simp only [Nat.pow_zero, Nat.div_one, Nat.zero_mul, Nat.zero_add]
    have : N / f.binade < 2 := (Nat.div_lt_iff_lt_mul hB).2 hN
    generalize N / f.binade = q at *
    rw [show q - 1 = 0 from by omega, Nat.pow_zero]
  · have hL : N.log2 = (N.log2 - f.fractionBits) + f.fractionBits := by omega
    have hN0 : N ≠ 0 := by
      intro e; subst e
      exact h (by rw [show Nat.log2 0 = 0 from by decide]; omega)
    have hlo := Nat.log2_self_le hN0
    generalize hLL : N.log2 - f.fractionBits = L at *
    rw [hL] at hlo hlog
    have hp : 0 < 2 ^ L := Nat.two_pow_pos _
    have hq1 : f.binade ≤ N / 2 ^ L := by
      rw [Nat.le_div_iff_mul_le hp, hbin, ← Nat.pow_add, Nat.add_comm]; exact hlo
    have hq2 : N / 2 ^ L < 2 * f.binade := by
      rw [Nat.div_lt_iff_lt_mul hp, hbin, Nat.mul_assoc, ← Nat.pow_add]
      rw [show L + f.fractionBits + 1 = (f.fractionBits + L) + 1 from by omega, Nat.pow_succ] at hlog
      omega
    rw [f.unit_at L _ (Or.inr ⟨hq1, hq2⟩)]
    refine ⟨rfl, ?_⟩
    unfold gap
    have : (L * f.binade + N / 2 ^ L) / f.binade = L + 1 := by
      rw [Nat.add_comm, Nat.add_mul_div_right _ _ hB]
      have : N / 2 ^ L / f.binade = 1 := by
        rw [Nat.div_eq_iff hB]; omega
      omega
    rw [this]; rfl

theorem fl_spec (N : Nat) : f.unit (f.fl N) ≤ N ∧ N < f.unit (f.fl N + 1) := by
  have hu := f.fl_parts N
  rw [unit_succ, hu.1, hu.2]
  have hp : 0 < 2 ^ (N.log2 - f.fractionBits) := Nat.two_pow_pos _
  have := Nat.div_add_mod N (2 ^ (N.log2 - f.fractionBits))
  have hm := Nat.mod_lt N hp
  rw [Nat.mul_comm]
  omega

theorem fl_eq {N a : Nat} (h1 : f.unit a ≤ N) (h2 : N < f.unit (a + 1)) : f.fl N = a := by
  have h := f.fl_spec N
  have a1 : a < f.fl N + 1 := f.unit_lt_iff.1 (by omega)
  have a2 : f.fl N < a + 1 := f.unit_lt_iff.1 (by omega)
  omega

/-- THE NEAREST RUNG: between a and a + 1, by the midpoint; at the midpoint the even one. -/
theorem nr_eq (hp : 1 ≤ f.fractionBits) {N a : Nat} (h1 : f.unit a ≤ N) (h2 : N < f.unit (a + 1)) :
    f.nr N = if f.unit a + f.unit (a + 1) < 2 * N ∨ (f.unit a + f.unit (a + 1) = 2 * N ∧ a % 2 = 1) then a + 1 else a := by
  have hfl := f.fl_eq h1 h2
  have hu := f.fl_parts N
  rw [hfl] at hu
  rw [unit_succ]
  have hev : f.binade % 2 = 0 := by
    unfold binade
    obtain ⟨q, hq⟩ : ∃ q, f.fractionBits = q + 1 := ⟨f.fractionBits - 1, by omega⟩
    rw [hq, Nat.pow_succ]; omega
  unfold nr
  unfold fl at hfl
  rw [hu.1, hu.2]
  generalize hL : N.log2 - f.fractionBits = L at *
  unfold rne
  have hpar : N / 2 ^ L % 2 = a % 2 := by
    rw [← hfl, Nat.add_mod, Nat.mul_mod, hev]; simp
  have hdm := Nat.div_add_mod N (2 ^ L)
  rw [Nat.mul_comm] at hdm
  rw [hpar, ← Nat.add_assoc, hfl]
  generalize N / 2 ^ L * 2 ^ L = A at *
  generalize 2 ^ L = D at *
  generalize N % D = R at *
  by_cases h : D < 2 * R ∨ (D = 2 * R ∧ a % 2 = 1)
  · rw [if_pos h, if_pos (by omega)]
  · rw [if_neg h, if_neg (by omega)]; rfl

theorem nr_unit (hp : 1 ≤ f.fractionBits) (a : Nat) : f.nr (f.unit a) = a := by
  have h := f.unit_lt_succ a
  rw [f.nr_eq hp (Nat.le_refl _) h, if_neg (by omega)]

end Format
end Ieee
