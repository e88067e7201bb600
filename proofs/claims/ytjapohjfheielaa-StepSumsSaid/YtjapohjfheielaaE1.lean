/- Plain law: the energy's words. Conditions: masses on the grid, a fit constant. -/
import Derived.Test.YtjapohjfheielaaA3
import Derived.Test.YtjapohjfheielaaD2
namespace Go.Proofs.Ytjapohjfheielaa
open Ieee (FinW V dR big double wordOf deepD)
attribute [local irreducible] Ieee.V Ieee.Format.rnd fv Ieee.big flW sqW iw

/-- squares added, one by one -/
def sqAdd (s : Nat) (z : Nat → Int) : Nat → Nat
  | 0 => s
  | k + 1 => fv .add (sqAdd s z k) (fv .mul (iw (z k)) (iw (z k)))
/-- what moves -/
def kinW (S : Nat → Int) (i : Nat) : Nat := fv .quo (sqAdd 0 (fun k => S (i * 7 + 4 + k)) 3) (iw (2 * S (i * 7)))
def kinS (S : Nat → Int) : Nat → Nat
  | 0 => 0
  | i + 1 => fv .add (kinS S i) (kinW S i)
/-- what pulls -/
def potW (g : Nat) (S : Nat → Int) (i j : Nat) : Nat := fv .quo (fv .mul g (iw (S (i * 7) * S (j * 7)))) (sqW (sqAdd softW (fun k => S (j * 7 + 1 + k) - S (i * 7 + 1 + k)) 3))
def potJ (g : Nat) (S : Nat → Int) (i s : Nat) : Nat → Nat
  | 0 => s
  | t + 1 => fv .sub (potJ g S i s t) (potW g S i (i + 1 + t))
def potI (g n : Nat) (S : Nat → Int) (s : Nat) : Nat → Nat
  | 0 => s
  | i + 1 => potJ g S i (potI g n S s i) (n - (i + 1))
def enW (g n : Nat) (S : Nat → Int) : Nat := fv .add (potI g n S (kinS S n) n) 0

/-- a sum so great that a small part does not move it past its bound -/
theorem stick {z : Int} {c : Nat} (h : z.natAbs ≤ 2 ^ (c + 54) + 2 ^ c) : (dR z).natAbs ≤ 2 ^ (c + 54) := by
  have key : ∀ y : Int, 0 ≤ y → y ≤ ((2 ^ (c + 54) + 2 ^ c : Nat) : Int) → dR y ≤ ((2 ^ (c + 54) : Nat) : Int) := by
    intro y _ hy
    have h1 := dR_mono hy
    have hA : ((2 ^ (c + 54) + 2 ^ c : Nat) : Int).natAbs = 2 ^ (c + 54) + 2 ^ c := Int.natAbs_natCast _
    have hb : double.binade = 2 ^ 52 := by decide
    have h2 : (2 ^ (c + 2) : Int) ∣ dR ((2 ^ (c + 54) + 2 ^ c : Nat) : Int) := double.rnd_big_dvd Ieee.hp52 (by
      rw [hA, hb, ← Nat.pow_add, show 52 + (c + 2) = c + 54 from by omega]; exact Nat.le_add_right _ _)
    have hfit : double.Fits ((2 ^ (c + 54) : Nat) : Int) := by
      have := double.fits_rnd ((2 ^ (c + 54) : Nat) : Int)
      rw [show double.rnd ((2 ^ (c + 54) : Nat) : Int) = ((2 ^ (c + 54) : Nat) : Int) from dR_pow _] at this
      exact this
    have h3 := double.rnd_near Ieee.hp52 ((2 ^ (c + 54) + 2 ^ c : Nat) : Int) hfit
    have h4 : double.rnd ((2 ^ (c + 54) + 2 ^ c : Nat) : Int) = dR ((2 ^ (c + 54) + 2 ^ c : Nat) : Int) := rfl
    rw [h4] at h3
    obtain ⟨q, hq⟩ := h2
    rw [← Ieee.pow_cast] at hq
    rw [hq] at h3 h1
    have e1 : (2 : Nat) ^ (c + 54) = 4503599627370496 * 2 ^ (c + 2) := by rw [show c + 54 = 52 + (c + 2) from by omega, Nat.pow_add]
    have e2 : (2 : Nat) ^ (c + 2) = 4 * 2 ^ c := by rw [Nat.add_comm, Nat.pow_add]
    refine Int.le_trans h1 ?_
    rw [e1] at h3 ⊢
    have hp : 0 < 2 ^ c := Nat.two_pow_pos c
    clear hb hA hfit h4 hq e1 h1 hy h
    obtain ⟨D, hD⟩ : ∃ D, 2 ^ (c + 2) = D := ⟨_, rfl⟩
    obtain ⟨B, hB⟩ : ∃ B, 2 ^ c = B := ⟨_, rfl⟩
    rw [hD] at h3 e2 ⊢
    rw [hB] at h3 e2 hp
    clear hD hB
    have hq2 : q ≤ 4503599627370496 := by
      rcases Int.lt_or_le 4503599627370496 q with h | h
      · exfalso
        have h5 : (D : Int) * 4503599627370497 ≤ (D : Int) * q := Int.mul_le_mul_of_nonneg_left (by omega) (by omega)
        generalize (D : Int) * q = X at *
        omega
      · exact h
    have h6 : (D : Int) * q ≤ (D : Int) * 4503599627370496 := Int.mul_le_mul_of_nonneg_left hq2 (by omega)
    generalize (D : Int) * q = X at *
    omega
  rcases Int.le_total 0 z with h0 | h0
  · have a := key z h0 (by omega)
    have b := dR_nonneg h0
    omega
  · have a := key (-z) (by omega) (by omega)
    have b := dR_nonneg (z := -z) (by omega)
    rw [dR_neg] at a b
    omega

/-- a word that is a finite number between 0 and a power of two -/
theorem sqP_word {d : Int} (hd : d.natAbs ≤ 2 ^ 50) : FOk .mul (iw d) (iw d) ∧ FinW (fv .mul (iw d) (iw d)) ∧ V (fv .mul (iw d) (iw d)) = dSq d := by
  obtain ⟨f, v⟩ := iw_V (n := d) (Nat.lt_of_le_of_lt hd (by decide))
  obtain ⟨a, b, c⟩ := w_mul f f (M := d * d * 2 ^ deepD) (by rw [v]; simp only [Int.mul_assoc, Int.mul_left_comm]) (Nat.le_trans (sq_abs hd) (le_big (by omega)))
  exact ⟨a, b, c⟩
theorem sqAdd_words {s b : Nat} {z : Nat → Int} (hs : FinW s) (h0 : ((b : Nat) : Int) ≤ V s) (hb : dR (b : Int) = b) (h1 : V s ≤ ((2 ^ (100 + deepD) : Nat) : Int)) (hz : ∀ k, k < 3 → (z k).natAbs ≤ 2 ^ 50) :
    ∀ k, k ≤ 3 → FinW (sqAdd s z k) ∧ ((b : Nat) : Int) ≤ V (sqAdd s z k) ∧ V (sqAdd s z k) ≤ ((2 ^ (100 + k + deepD) : Nat) : Int)
  | 0, _ => ⟨hs, h0, by rw [Nat.add_zero]; exact h1⟩
  | k + 1, hk => by
    obtain ⟨a1, a2, a3⟩ := sqAdd_words hs h0 hb h1 hz k (by omega)
    obtain ⟨b1, b2, b3⟩ := sqP_word (hz k (by omega))
    have c1 := dSq_nonneg (z k)
    have c2 : dSq (z k) ≤ ((2 ^ (100 + k + deepD) : Nat) : Int) := Int.le_trans (dSq_le (hz k (by omega))) (pow_mono_i (by omega))
    have c3 := add_pows a3 c2 (c := 100 + (k + 1) + deepD) (by omega)
    have c4 := le_big (e := 100 + (k + 1) + deepD) (by omega)
    obtain ⟨d1, d2, d3⟩ := w_add a1 b2 (by rw [b3]; omega)
    rw [b3] at d3
    refine ⟨d2, ?_, ?_⟩
    · show _ ≤ V (fv .add _ _)
      rw [d3, ← hb]; exact dR_mono (by omega)
    · show V (fv .add _ _) ≤ _
      rw [d3]; exact dR_pow_le c3
theorem sqAdd_ok {s b : Nat} {z : Nat → Int} (hs : FinW s) (h0 : ((b : Nat) : Int) ≤ V s) (hb : dR (b : Int) = b) (h1 : V s ≤ ((2 ^ (100 + deepD) : Nat) : Int)) (hz : ∀ k, k < 3 → (z k).natAbs ≤ 2 ^ 50)
    {k : Nat} (hk : k < 3) : FOk .mul (iw (z k)) (iw (z k)) ∧ FOk .add (sqAdd s z k) (fv .mul (iw (z k)) (iw (z k))) := by
  obtain ⟨a1, a2, a3⟩ := sqAdd_words hs h0 hb h1 hz k (by omega)
  obtain ⟨b1, b2, b3⟩ := sqP_word (hz k hk)
  have c1 := dSq_nonneg (z k)
  have c2 : dSq (z k) ≤ ((2 ^ (100 + k + deepD) : Nat) : Int) := Int.le_trans (dSq_le (hz k hk)) (pow_mono_i (by omega))
  have c3 := add_pows a3 c2 (c := 100 + (k + 1) + deepD) (by omega)
  have c4 := le_big (e := 100 + (k + 1) + deepD) (by omega)
  exact ⟨b1, (w_add a1 b2 (by rw [b3]; omega)).1⟩
theorem zero_start : FinW 0 ∧ (((0 : Nat) : Nat) : Int) ≤ V 0 ∧ dR ((0 : Nat) : Int) = ((0 : Nat) : Int) ∧ V 0 ≤ ((2 ^ (100 + deepD) : Nat) : Int) :=
  ⟨fin_zero, by rw [V_zero]; exact Int.le_refl _, dR_zero, by rw [V_zero]; exact Int.natCast_nonneg _⟩
theorem soft_start : FinW softW ∧ ((2 ^ (20 + deepD) : Nat) : Int) ≤ V softW ∧ dR ((2 ^ (20 + deepD) : Nat) : Int) = ((2 ^ (20 + deepD) : Nat) : Int) ∧ V softW ≤ ((2 ^ (100 + deepD) : Nat) : Int) := by
  have hs : ((2 : Int) ^ (20 + deepD)) = ((2 ^ (20 + deepD) : Nat) : Int) := (Ieee.pow_cast _).symm
  exact ⟨fin_soft, by rw [V_soft, hs]; exact Int.le_refl _, dR_pow _, by rw [V_soft, hs]; exact pow_mono_i (by omega)⟩

/-- a mass's own part -/
theorem kin_word {S : Nat → Int} {i : Nat} (hm : okM S i) : FOk .quo (sqAdd 0 (fun k => S (i * 7 + 4 + k)) 3) (iw (2 * S (i * 7))) ∧ FinW (kinW S i) ∧ (V (kinW S i)).natAbs ≤ 2 ^ (104 + deepD) ∧
    ∀ k, k < 3 → FOk .mul (iw (S (i * 7 + 4 + k))) (iw (S (i * 7 + 4 + k))) ∧ FOk .add (sqAdd 0 (fun k => S (i * 7 + 4 + k)) k) (fv .mul (iw (S (i * 7 + 4 + k))) (iw (S (i * 7 + 4 + k)))) := by
  obtain ⟨⟨m1, m2⟩, hx⟩ := hm
  have hz : ∀ k, k < 3 → ((fun k => S (i * 7 + 4 + k)) k).natAbs ≤ 2 ^ 50 := fun k hk => by
    have := (hx k hk).2
    unfold okP at this
    show (S (i * 7 + 4 + k)).natAbs ≤ 1125899906842624
    omega
  obtain ⟨s1, s2, s3, s4⟩ := zero_start
  obtain ⟨a1, a2, a3⟩ := sqAdd_words s1 s2 s3 s4 hz 3 (Nat.le_refl _)
  obtain ⟨b1, b2⟩ := iw_V (n := 2 * S (i * 7)) (by omega)
  have hU := Nat.two_pow_pos deepD
  have b3 : 2 ^ deepD ≤ (V (iw (2 * S (i * 7)))).natAbs := by
    rw [b2, Int.natAbs_mul, ← Ieee.pow_cast, Int.natAbs_natCast]
    exact Nat.le_mul_of_pos_left _ (by omega)
  obtain ⟨c1, c2, c3, _⟩ := w_div a1 b1 (b := 104) (by omega) (by omega) (by
    have e : (2 : Nat) ^ (100 + 3 + deepD) ≤ 2 ^ 104 * 2 ^ deepD := by rw [← Nat.pow_add]; exact Nat.pow_le_pow_right (by omega) (by omega)
    have := Nat.mul_le_mul_left (2 ^ 104) b3
    omega)
  exact ⟨c1, c2, c3, fun k hk => sqAdd_ok s1 s2 s3 s4 hz hk⟩
/-- what two pull at each other -/
theorem pot_word {g : Nat} {S : Nat → Int} {i j : Nat} (hg : FinW g) (g0 : 0 ≤ V g) (g1 : V g ≤ 2 ^ (40 + deepD)) (hi : okM S i) (hj : okM S j) :
    FOk .mul g (iw (S (i * 7) * S (j * 7))) ∧ double.sqrt (sqAdd softW (fun k => S (j * 7 + 1 + k) - S (i * 7 + 1 + k)) 3) = some (sqW (sqAdd softW (fun k => S (j * 7 + 1 + k) - S (i * 7 + 1 + k)) 3)) ∧
    FOk .quo (fv .mul g (iw (S (i * 7) * S (j * 7)))) (sqW (sqAdd softW (fun k => S (j * 7 + 1 + k) - S (i * 7 + 1 + k)) 3)) ∧ FinW (potW g S i j) ∧ (V (potW g S i j)).natAbs ≤ 2 ^ (104 + deepD) ∧
    ∀ k, k < 3 → FOk .mul (iw (S (j * 7 + 1 + k) - S (i * 7 + 1 + k))) (iw (S (j * 7 + 1 + k) - S (i * 7 + 1 + k))) ∧
      FOk .add (sqAdd softW (fun k => S (j * 7 + 1 + k) - S (i * 7 + 1 + k)) k) (fv .mul (iw (S (j * 7 + 1 + k) - S (i * 7 + 1 + k))) (iw (S (j * 7 + 1 + k) - S (i * 7 + 1 + k)))) := by
  obtain ⟨⟨m1, m2⟩, hx⟩ := hi
  obtain ⟨⟨n1, n2⟩, hy⟩ := hj
  have hz : ∀ k, k < 3 → ((fun k => S (j * 7 + 1 + k) - S (i * 7 + 1 + k)) k).natAbs ≤ 2 ^ 50 := fun k hk => by
    have a := (hx k hk).1
    have b := (hy k hk).1
    unfold okX at a b
    show (S (j * 7 + 1 + k) - S (i * 7 + 1 + k)).natAbs ≤ 1125899906842624
    omega
  obtain ⟨s1, s2, s3, s4⟩ := soft_start
  obtain ⟨a1, a2, a3⟩ := sqAdd_words s1 s2 s3 s4 hz 3 (Nat.le_refl _)
  have hk := fun k hk => sqAdd_ok s1 s2 s3 s4 hz (k := k) hk
  obtain ⟨r1, r2, r3, r4⟩ := w_sqrt a1 (c := 52) (by omega) (by rw [← Ieee.pow_cast]; exact Int.le_trans (pow_mono_i (by omega)) a2) (by rw [← Ieee.pow_cast]; exact Int.le_trans a3 (pow_mono_i (by omega)))
  have hmm : 0 ≤ S (i * 7) * S (j * 7) ∧ S (i * 7) * S (j * 7) ≤ 1099511627776 := by
    constructor
    · exact Int.mul_nonneg (by omega) (by omega)
    · exact Int.le_trans (Int.mul_le_mul m2 n2 (by omega) (by omega)) (by decide)
  obtain ⟨b1, b2⟩ := iw_V (n := S (i * 7) * S (j * 7)) (by omega)
  have mg1 : (V g * (S (i * 7) * S (j * 7))).natAbs ≤ 2 ^ (80 + deepD) := by
    rw [Int.natAbs_mul, show 80 + deepD = (40 + deepD) + 40 from by omega, Nat.pow_add]
    rw [← Ieee.pow_cast] at g1
    exact Nat.mul_le_mul (by omega) (by rw [show (2 : Nat) ^ 40 = 1099511627776 from by decide]; omega)
  obtain ⟨c1, c2, c3⟩ := w_mul hg b1 (M := V g * (S (i * 7) * S (j * 7))) (by rw [b2]; exact (Int.mul_assoc _ _ _).symm) (Nat.le_trans mg1 (le_big (by omega)))
  have ghi : (V (fv .mul g (iw (S (i * 7) * S (j * 7))))).natAbs ≤ 2 ^ (80 + deepD) := by rw [c3]; exact dR_pow_abs mg1
  have hU := Nat.two_pow_pos deepD
  rw [← Ieee.pow_cast] at r3
  obtain ⟨e1, e2, e3, _⟩ := w_div c2 r2 (b := 104) (by omega) (by omega) (by
    have e : (2 : Nat) ^ (80 + deepD) ≤ 2 ^ 104 * 2 ^ deepD := by rw [← Nat.pow_add]; exact Nat.pow_le_pow_right (by omega) (by omega)
    have := Nat.mul_le_mul_left (2 ^ 104) (show 2 ^ deepD ≤ (V (sqW (sqAdd softW (fun k => S (j * 7 + 1 + k) - S (i * 7 + 1 + k)) 3))).natAbs by omega)
    omega)
  exact ⟨c1, r1, e1, e2, e3, hk⟩

/-- a sum's word that stays small enough -/
def Sml (s : Nat) : Prop := FinW s ∧ (V s).natAbs ≤ 2 ^ (104 + deepD + 54)
theorem sml_big {z : Int} (h : z.natAbs ≤ 2 ^ (104 + deepD + 54) + 2 ^ (104 + deepD)) : z.natAbs ≤ big := by
  have h1 : (2 : Nat) ^ (104 + deepD) ≤ 2 ^ (104 + deepD + 54) := Nat.pow_le_pow_right (by omega) (by omega)
  have h2 : (2 : Nat) ^ (104 + deepD + 54) + 2 ^ (104 + deepD + 54) = 2 ^ (104 + deepD + 54 + 1) := by have := @Nat.pow_succ 2 (104 + deepD + 54); omega
  have h3 := le_big (e := 104 + deepD + 54 + 1) (by omega)
  omega
theorem Sml.add {s x : Nat} (h : Sml s) (hx : FinW x) (hb : (V x).natAbs ≤ 2 ^ (104 + deepD)) : FOk .add s x ∧ Sml (fv .add s x) := by
  have hz : (V s + V x).natAbs ≤ 2 ^ (104 + deepD + 54) + 2 ^ (104 + deepD) := by have := h.2; omega
  obtain ⟨a, b, c⟩ := w_add h.1 hx (sml_big hz)
  exact ⟨a, b, by rw [c]; exact stick hz⟩
theorem Sml.sub {s x : Nat} (h : Sml s) (hx : FinW x) (hb : (V x).natAbs ≤ 2 ^ (104 + deepD)) : FOk .sub s x ∧ Sml (fv .sub s x) := by
  have hz : (V s - V x).natAbs ≤ 2 ^ (104 + deepD + 54) + 2 ^ (104 + deepD) := by have := h.2; omega
  obtain ⟨a, b, c⟩ := w_sub h.1 hx (sml_big hz)
  exact ⟨a, b, by rw [c]; exact stick hz⟩
theorem Sml.zero : Sml 0 := ⟨fin_zero, by rw [V_zero]; exact Nat.zero_le _⟩
theorem kinS_sml {n : Nat} {S : Nat → Int} (hok : okAll n S) : ∀ i, i ≤ n → Sml (kinS S i)
  | 0, _ => Sml.zero
  | i + 1, h => by
    obtain ⟨_, a, b, _⟩ := kin_word (hok i (by omega))
    exact ((kinS_sml hok i (by omega)).add a b).2
theorem potJ_sml {g n s i : Nat} {S : Nat → Int} (hg : FinW g) (g0 : 0 ≤ V g) (g1 : V g ≤ 2 ^ (40 + deepD)) (hok : okAll n S) (hs : Sml s) (hi : i < n) : ∀ t, i + 1 + t ≤ n → Sml (potJ g S i s t)
  | 0, _ => hs
  | t + 1, h => by
    obtain ⟨_, _, _, a, b, _⟩ := pot_word hg g0 g1 (hok i hi) (hok (i + 1 + t) (by omega))
    exact ((potJ_sml hg g0 g1 hok hs hi t (by omega)).sub a b).2
theorem potI_sml {g n s : Nat} {S : Nat → Int} (hg : FinW g) (g0 : 0 ≤ V g) (g1 : V g ≤ 2 ^ (40 + deepD)) (hok : okAll n S) (hs : Sml s) : ∀ i, i ≤ n → Sml (potI g n S s i)
  | 0, _ => hs
  | i + 1, h => potJ_sml hg g0 g1 hok (potI_sml hg g0 g1 hok hs i (by omega)) (by omega) (n - (i + 1)) (by omega)
end Go.Proofs.Ytjapohjfheielaa
