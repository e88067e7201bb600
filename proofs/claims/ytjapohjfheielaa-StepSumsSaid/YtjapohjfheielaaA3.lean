/- Plain law: what a mass pulls at another, in whole numbers. Conditions: masses on the grid, a fit constant. -/
import Derived.Test.YtjapohjfheielaaA2
namespace Go.Proofs.Ytjapohjfheielaa
open Go.RowKit
open Ieee (FinW V dR big double wordOf deepD)

def softW : Nat := 4697254411347427328
def farW : Nat := 4751297606875873280
def nfarW : Nat := 13974669643730649088
theorem fin_soft : FinW softW := by refine ⟨by decide, ?_⟩; decide
theorem fin_far : FinW farW := by refine ⟨by decide, ?_⟩; decide
theorem fin_nfar : FinW nfarW := by refine ⟨by decide, ?_⟩; decide
theorem V_soft : V softW = 2 ^ (20 + deepD) := by decide +kernel
theorem V_far : V farW = 2 ^ (32 + deepD) := by decide +kernel
theorem V_nfar : V nfarW = -2 ^ (32 + deepD) := by decide +kernel
theorem big_deep : 700 + deepD ≤ Ieee.bigE := by decide
attribute [local irreducible] Ieee.deepD
theorem le_big {e : Nat} (h : e ≤ 700 + deepD) : 2 ^ e ≤ big := Nat.pow_le_pow_right (by omega) (Nat.le_trans h big_deep)
theorem dR_pow (e : Nat) : dR ((2 ^ e : Nat) : Int) = ((2 ^ e : Nat) : Int) := by
  apply double.rnd_of_fits Ieee.hp52
  refine ⟨double.nr (2 ^ e), ?_⟩
  rw [Ieee.unit_pow]; rfl
theorem dR_pow_le {z : Int} {e : Nat} (h : z ≤ ((2 ^ e : Nat) : Int)) : dR z ≤ ((2 ^ e : Nat) : Int) := by rw [← dR_pow e]; exact dR_mono h
theorem dR_pow_ge {z : Int} {e : Nat} (h : ((2 ^ e : Nat) : Int) ≤ z) : ((2 ^ e : Nat) : Int) ≤ dR z := by rw [← dR_pow e]; exact dR_mono h
theorem dR_pow_abs {z : Int} {e : Nat} (h : z.natAbs ≤ 2 ^ e) : (dR z).natAbs ≤ 2 ^ e := by
  have h1 := dR_pow_le (z := z) (e := e) (by omega)
  have h2 := dR_pow_le (z := -z) (e := e) (by omega)
  rw [dR_neg] at h2
  omega
theorem dR_nonneg {z : Int} (h : 0 ≤ z) : 0 ≤ dR z := by have := dR_mono h; rwa [dR_zero] at this
theorem dvd_dR {z : Int} {k : Nat} (h : (2 ^ k : Int) ∣ z) : (2 ^ k : Int) ∣ dR z := double.rnd_dvd Ieee.hp52 h

/-- a square in units; the square of a distance, softened -/
def dSq (d : Int) : Int := dR (d * d * 2 ^ deepD)
def longV (d0 d1 d2 : Int) : Int := dR (dR (dR (2 ^ (20 + deepD) + dSq d0) + dSq d1) + dSq d2)
theorem dSq_neg (d : Int) : dSq (-d) = dSq d := by unfold dSq; rw [Int.neg_mul_neg]
theorem dSq_dvd (d : Int) : (2 ^ deepD : Int) ∣ dSq d := dvd_dR (Int.dvd_mul_left _ _)
theorem dSq_nonneg (d : Int) : 0 ≤ dSq d := dR_nonneg (Int.mul_nonneg (by rcases Int.le_total 0 d with h | h
                                                                          · exact Int.mul_nonneg h h
                                                                          · exact Int.mul_nonneg_of_nonpos_of_nonpos h h) (Int.le_of_lt U_pos))
theorem sq_abs {d : Int} {e : Nat} (h : d.natAbs ≤ 2 ^ e) : (d * d * 2 ^ deepD).natAbs ≤ 2 ^ (2 * e + deepD) := by
  rw [Int.natAbs_mul, Int.natAbs_mul, Int.natAbs_pow, Nat.pow_add, show 2 * e = e + e from by omega, Nat.pow_add]
  exact Nat.mul_le_mul_right _ (Nat.mul_le_mul h h)
theorem dSq_le {d : Int} {e : Nat} (h : d.natAbs ≤ 2 ^ e) : dSq d ≤ ((2 ^ (2 * e + deepD) : Nat) : Int) :=
  dR_pow_le (by have := sq_abs h; omega)
theorem two_pows {a b c e : Nat} (ha : a ≤ 2 ^ e) (hb : b ≤ 2 ^ e) (hc : c = e + 1) : a + b ≤ 2 ^ c := by
  rw [hc, Nat.pow_succ]; omega
theorem add_pows {x y : Int} {e c : Nat} (hx : x ≤ ((2 ^ e : Nat) : Int)) (hy : y ≤ ((2 ^ e : Nat) : Int)) (hc : c = e + 1) : x + y ≤ ((2 ^ c : Nat) : Int) := by
  rw [hc, Nat.pow_succ]; omega
theorem pow_mono_i {a b : Nat} (h : a ≤ b) : ((2 ^ a : Nat) : Int) ≤ ((2 ^ b : Nat) : Int) := Int.ofNat_le.2 (Nat.pow_le_pow_right (by omega) h)

/-- one more square -/
theorem more_long {L d : Int} {e : Nat} (he : 82 ≤ e) (h1 : ((2 ^ (20 + deepD) : Nat) : Int) ≤ L) (h2 : L ≤ ((2 ^ (e + deepD) : Nat) : Int)) (h3 : (2 ^ deepD : Int) ∣ L) (hd : d.natAbs ≤ 2 ^ 41) :
    ((2 ^ (20 + deepD) : Nat) : Int) ≤ dR (L + dSq d) ∧ dR (L + dSq d) ≤ ((2 ^ (e + 1 + deepD) : Nat) : Int) ∧ (2 ^ deepD : Int) ∣ dR (L + dSq d) ∧ 0 ≤ L + dSq d ∧ L + dSq d ≤ ((2 ^ (e + 1 + deepD) : Nat) : Int) := by
  have g1 := dSq_nonneg d
  have g2 := dSq_le hd
  have g3 : dSq d ≤ ((2 ^ (e + deepD) : Nat) : Int) := Int.le_trans g2 (pow_mono_i (by omega))
  have g4 := add_pows h2 g3 (c := e + 1 + deepD) (by omega)
  have g5 := Int.natCast_nonneg (2 ^ (20 + deepD))
  exact ⟨dR_pow_ge (by omega), dR_pow_le g4, dvd_dR (Int.dvd_add h3 (dSq_dvd d)), by omega, g4⟩

theorem long_parts {d0 d1 d2 : Int} (h0 : d0.natAbs ≤ 2 ^ 41) (h1 : d1.natAbs ≤ 2 ^ 41) (h2 : d2.natAbs ≤ 2 ^ 41) :
    ((2 ^ (20 + deepD) : Nat) : Int) ≤ longV d0 d1 d2 ∧ longV d0 d1 d2 ≤ ((2 ^ (2 * 43 + deepD) : Nat) : Int) ∧ (2 ^ deepD : Int) ∣ longV d0 d1 d2 := by
  unfold longV
  have hs : ((2 : Int) ^ (20 + deepD)) = ((2 ^ (20 + deepD) : Nat) : Int) := (Ieee.pow_cast _).symm
  rw [hs]
  obtain ⟨a1, a2, a3, _⟩ := more_long (L := ((2 ^ (20 + deepD) : Nat) : Int)) (e := 82) (by omega) (Int.le_refl _) (pow_mono_i (by omega)) (by rw [← hs, Int.pow_add]; exact Int.dvd_mul_left _ _) h0
  obtain ⟨b1, b2, b3, _⟩ := more_long (by omega) a1 a2 a3 h1
  obtain ⟨c1, c2, c3, _⟩ := more_long (by omega) b1 b2 b3 h2
  exact ⟨c1, Int.le_trans c2 (pow_mono_i (by omega)), c3⟩

/-- the pull's factor, as a word; an impulse's clamp; an impulse -/
def forceW (g : Nat) (mm : Int) (L : Int) : Nat := fv .quo (fv .mul g (iw mm)) (fv .mul (wordOf L) (sqW (wordOf L)))
def clampHi (z : Int) : Int := if 2 ^ (32 + deepD) < z then 2 ^ (32 + deepD) else z
def clampLo (z : Int) : Int := if z < -2 ^ (32 + deepD) then -2 ^ (32 + deepD) else z
def pk (g : Nat) (mm d0 d1 d2 d : Int) : Int := rN (clampLo (clampHi (dR (V (forceW g mm (longV d0 d1 d2)) * d))))
theorem clamp_neg (z : Int) : clampLo (clampHi (-z)) = -clampLo (clampHi z) := by
  have h : (0 : Int) < 2 ^ (32 + deepD) := Int.pow_pos (by omega)
  unfold clampLo clampHi
  generalize (2 : Int) ^ (32 + deepD) = F at *
  by_cases h1 : F < z
  · rw [if_pos h1, if_neg (show ¬ F < -z from by omega), if_pos (show -z < -F from by omega), if_neg (show ¬ F < -F from by omega)]
  · rw [if_neg h1]
    by_cases h2 : z < -F
    · rw [if_pos h2, if_pos (show F < -z from by omega), if_neg (by omega)]; omega
    · rw [if_neg h2, if_neg (show ¬ F < -z from by omega), if_neg (by omega)]
theorem clamp_abs (z : Int) : (clampLo (clampHi z)).natAbs ≤ 4294967296 * 2 ^ deepD := by
  have h : ((2 : Int) ^ (32 + deepD)) = ((4294967296 * 2 ^ deepD : Nat) : Int) := by rw [← Ieee.pow_cast, Nat.pow_add]
  unfold clampLo clampHi
  rw [h]
  generalize 4294967296 * 2 ^ deepD = F at *
  split <;> split <;> omega
theorem pk_odd (g : Nat) (mm d0 d1 d2 d : Int) : pk g mm d0 d1 d2 (-d) = -pk g mm d0 d1 d2 d := by
  unfold pk
  rw [Int.mul_neg, dR_neg, clamp_neg, rN_neg]
theorem pk_even0 (g : Nat) (mm d0 d1 d2 d : Int) : pk g mm (-d0) d1 d2 d = pk g mm d0 d1 d2 d := by unfold pk longV; rw [dSq_neg]
theorem pk_even1 (g : Nat) (mm d0 d1 d2 d : Int) : pk g mm d0 (-d1) d2 d = pk g mm d0 d1 d2 d := by unfold pk longV; rw [dSq_neg]
theorem pk_even2 (g : Nat) (mm d0 d1 d2 d : Int) : pk g mm d0 d1 (-d2) d = pk g mm d0 d1 d2 d := by unfold pk longV; rw [dSq_neg]
theorem pk_le (g : Nat) (mm d0 d1 d2 d : Int) : (pk g mm d0 d1 d2 d).natAbs ≤ 8589934593 := rN_le (B := 4294967296) (clamp_abs _)

attribute [local irreducible] Ieee.V Ieee.Format.rnd fv Ieee.big flW sqW iw hU softW farW nfarW

/-- a word of a whole number's square, and a sum -/
theorem sq_word {d : Int} (hd : d.natAbs ≤ 2 ^ 41) : FOk .mul (iw d) (iw d) ∧ FinW (fv .mul (iw d) (iw d)) ∧ V (fv .mul (iw d) (iw d)) = dSq d := by
  obtain ⟨f, v⟩ := iw_V (n := d) (Nat.lt_of_le_of_lt hd (by decide))
  obtain ⟨a, b, c⟩ := w_mul f f (M := d * d * 2 ^ deepD) (by rw [v]; simp only [Int.mul_assoc, Int.mul_left_comm]) (Nat.le_trans (sq_abs hd) (le_big (by omega)))
  exact ⟨a, b, c⟩
theorem sum_word {l : Nat} {L d : Int} {e : Nat} (he : 82 ≤ e) (he2 : e ≤ 600) (hl : FinW l) (hv : V l = L) (h1 : ((2 ^ (20 + deepD) : Nat) : Int) ≤ L) (h2 : L ≤ ((2 ^ (e + deepD) : Nat) : Int)) (h3 : (2 ^ deepD : Int) ∣ L) (hd : d.natAbs ≤ 2 ^ 41) :
    FOk .mul (iw d) (iw d) ∧ FOk .add l (fv .mul (iw d) (iw d)) ∧ FinW (fv .add l (fv .mul (iw d) (iw d))) ∧ V (fv .add l (fv .mul (iw d) (iw d))) = dR (L + dSq d) := by
  obtain ⟨a1, a2, a3⟩ := sq_word hd
  obtain ⟨_, _, _, b4, b5⟩ := more_long he h1 h2 h3 hd
  have hb : (V l + V (fv .mul (iw d) (iw d))).natAbs ≤ big := by
    rw [hv, a3]
    have := le_big (e := e + 1 + deepD) (by omega)
    omega
  obtain ⟨c1, c2, c3⟩ := w_add hl a2 hb
  rw [hv, a3] at c3
  exact ⟨a1, c1, c2, c3⟩

/-- the words of the sum of squares -/
theorem long_words {d0 d1 d2 : Int} (h0 : d0.natAbs ≤ 2 ^ 41) (h1 : d1.natAbs ≤ 2 ^ 41) (h2 : d2.natAbs ≤ 2 ^ 41) :
    FOk .mul (iw d0) (iw d0) ∧ FOk .mul (iw d1) (iw d1) ∧ FOk .mul (iw d2) (iw d2) ∧
    FOk .add softW (fv .mul (iw d0) (iw d0)) ∧ FOk .add (fv .add softW (fv .mul (iw d0) (iw d0))) (fv .mul (iw d1) (iw d1)) ∧
    FOk .add (fv .add (fv .add softW (fv .mul (iw d0) (iw d0))) (fv .mul (iw d1) (iw d1))) (fv .mul (iw d2) (iw d2)) ∧
    fv .add (fv .add (fv .add softW (fv .mul (iw d0) (iw d0))) (fv .mul (iw d1) (iw d1))) (fv .mul (iw d2) (iw d2)) = wordOf (longV d0 d1 d2) ∧ FinW (wordOf (longV d0 d1 d2)) ∧ V (wordOf (longV d0 d1 d2)) = longV d0 d1 d2 := by
  have hs : ((2 : Int) ^ (20 + deepD)) = ((2 ^ (20 + deepD) : Nat) : Int) := (Ieee.pow_cast _).symm
  have hvs : V softW = ((2 ^ (20 + deepD) : Nat) : Int) := by rw [V_soft, hs]
  have hdv : (2 ^ deepD : Int) ∣ ((2 ^ (20 + deepD) : Nat) : Int) := by rw [← hs, Int.pow_add]; exact Int.dvd_mul_left _ _
  obtain ⟨a1, a2, a3, _⟩ := more_long (L := ((2 ^ (20 + deepD) : Nat) : Int)) (e := 82) (by omega) (Int.le_refl _) (pow_mono_i (by omega)) hdv h0
  obtain ⟨b1, b2, b3, _⟩ := more_long (by omega) a1 a2 a3 h1
  obtain ⟨p1, p2, p3, p4⟩ := sum_word (e := 82) (by omega) (by omega) fin_soft hvs (Int.le_refl _) (pow_mono_i (by omega)) hdv h0
  obtain ⟨q1, q2, q3, q4⟩ := sum_word (by omega) (by omega) p3 p4 a1 a2 a3 h1
  obtain ⟨r1, r2, r3, r4⟩ := sum_word (by omega) (by omega) q3 q4 b1 b2 b3 h2
  obtain ⟨l1, l2, l3⟩ := long_parts h0 h1 h2
  have hL : dR (dR (dR (((2 ^ (20 + deepD) : Nat) : Int) + dSq d0) + dSq d1) + dSq d2) = longV d0 d1 d2 := by unfold longV; rw [hs]
  rw [hL] at r4
  have hfix : dR (longV d0 d1 d2) = longV d0 d1 d2 := by unfold longV; exact dR_fits _
  have hp : 0 < 2 ^ (20 + deepD) := Nat.two_pow_pos _
  obtain ⟨s1, s2⟩ := Ieee.V_wordOf (z := longV d0 d1 d2) (by have := le_big (e := 2 * 43 + deepD) (by omega); omega)
  rw [hfix] at s1
  exact ⟨p1, q1, r1, p2, q2, r2, Ieee.word_unique r3 s2 (by rw [r4, s1]) (by rw [r4]; omega), s2, s1⟩

/-- the factor -/
theorem force_word {g : Nat} {mm L : Int} (hg : FinW g) (g0 : 0 ≤ V g) (g1 : V g ≤ 2 ^ (40 + deepD)) (hm0 : 0 ≤ mm) (hm1 : mm ≤ 1099511627776) (hf : FinW (wordOf L)) (hv : V (wordOf L) = L)
    (h1 : ((2 ^ (20 + deepD) : Nat) : Int) ≤ L) (h2 : L ≤ ((2 ^ (2 * 43 + deepD) : Nat) : Int)) (h3 : (2 ^ deepD : Int) ∣ L) :
    double.sqrt (wordOf L) = some (sqW (wordOf L)) ∧ FOk .mul g (iw mm) ∧ FOk .mul (wordOf L) (sqW (wordOf L)) ∧ FOk .quo (fv .mul g (iw mm)) (fv .mul (wordOf L) (sqW (wordOf L))) ∧
    FinW (forceW g mm L) ∧ (V (forceW g mm L)).natAbs ≤ 2 ^ (80 + deepD) := by
  have hU := Nat.two_pow_pos deepD
  obtain ⟨a1, a2, a3, a4⟩ := w_sqrt hf (c := 43) (by omega) (by rw [hv, ← Ieee.pow_cast]; exact Int.le_trans (pow_mono_i (by omega)) h1) (by rw [hv, ← Ieee.pow_cast]; exact h2)
  obtain ⟨b1, b2⟩ := iw_V (n := mm) (by omega)
  have mg1 : (V g * mm).natAbs ≤ 2 ^ (80 + deepD) := by
    rw [Int.natAbs_mul, show 80 + deepD = (40 + deepD) + 40 from by omega, Nat.pow_add]
    rw [← Ieee.pow_cast] at g1
    exact Nat.mul_le_mul (by omega) (by rw [show (2 : Nat) ^ 40 = 1099511627776 from by decide]; omega)
  obtain ⟨c1, c2, c3⟩ := w_mul hg b1 (M := V g * mm) (by rw [b2, Int.mul_assoc]) (Nat.le_trans mg1 (le_big (by omega)))
  obtain ⟨l, hl⟩ := h3
  rw [← Ieee.pow_cast] at hl a3 a4
  have l1 : 1048576 ≤ l := by
    rw [hl, Nat.pow_add] at h1
    have : ((2 ^ 20 * 2 ^ deepD : Nat) : Int) = 1048576 * ((2 ^ deepD : Nat) : Int) := by rw [Int.natCast_mul]; rfl
    rw [this, Int.mul_comm] at h1
    exact Int.le_of_mul_le_mul_left h1 (by omega)
  have l2 : l ≤ ((2 ^ 86 : Nat) : Int) := by
    rw [hl, Nat.pow_add, Int.natCast_mul, Int.mul_comm] at h2
    exact Int.le_of_mul_le_mul_right h2 (by omega)
  have mb : (l * V (sqW (wordOf L))).natAbs ≤ 2 ^ (129 + deepD) := by
    rw [Int.natAbs_mul, show 129 + deepD = 86 + (43 + deepD) from by omega, Nat.pow_add]
    exact Nat.mul_le_mul (by omega) (by omega)
  obtain ⟨d1, d2, d3⟩ := w_mul hf a2 (M := l * V (sqW (wordOf L))) (by rw [hv, hl, ← Ieee.pow_cast]; simp only [Int.mul_assoc, Int.mul_comm, Int.mul_left_comm]) (Nat.le_trans mb (le_big (by omega)))
  have dlo : ((2 ^ deepD : Nat) : Int) ≤ V (fv .mul (wordOf L) (sqW (wordOf L))) := by
    rw [d3]
    apply dR_pow_ge
    have : 1 * ((2 ^ deepD : Nat) : Int) ≤ l * V (sqW (wordOf L)) := Int.mul_le_mul (by omega) a3 (by omega) (by omega)
    omega
  have ghi : (V (fv .mul g (iw mm))).natAbs ≤ 2 ^ (80 + deepD) := by rw [c3]; exact dR_pow_abs mg1
  obtain ⟨e1, e2, e3, _⟩ := w_div c2 d2 (b := 80) (by omega) (by omega) (by
    rw [Nat.pow_add] at ghi
    exact Nat.le_trans ghi (Nat.mul_le_mul_left _ (by omega)))
  exact ⟨a1, c1, d1, e1, e2, e3⟩

/-- an impulse before its clamp -/
theorem pull_word {f : Nat} {d : Int} (hf : FinW f) (h : (V f).natAbs ≤ 2 ^ (80 + deepD)) (hd : d.natAbs ≤ 2 ^ 41) :
    FOk .mul f (iw d) ∧ FinW (fv .mul f (iw d)) ∧ V (fv .mul f (iw d)) = dR (V f * d) := by
  obtain ⟨a, b⟩ := iw_V (n := d) (Nat.lt_of_le_of_lt hd (by decide))
  refine w_mul hf a (by rw [b, Int.mul_assoc]) (Nat.le_trans (?_ : _ ≤ 2 ^ (121 + deepD)) (le_big (by omega)))
  rw [Int.natAbs_mul, show 121 + deepD = (80 + deepD) + 41 from by omega, Nat.pow_add]
  exact Nat.mul_le_mul h hd
end Go.Proofs.Ytjapohjfheielaa
