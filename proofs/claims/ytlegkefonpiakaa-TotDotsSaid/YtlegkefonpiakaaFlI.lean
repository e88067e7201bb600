/- Plain law of binary64: quotients, square roots, whole numbers of words. Conditions: finite operands, no overflow. -/
import Derived.Test.YtlegkefonpiakaaFlH
namespace Ieee

/-! ### rounding at any place -/
theorem rne_le {n d X : Nat} (h : n ≤ X * 2 ^ d) : rne n d ≤ X := by
  have hp : 0 < 2 ^ d := Nat.two_pow_pos _
  have hdm := Nat.div_add_mod n (2 ^ d)
  have hml := Nat.mod_lt n hp
  unfold rne
  generalize 2 ^ d = D at *
  generalize n / D = q at *
  generalize n % D = r at *
  have hq : q ≤ X := by
    rcases Nat.lt_or_ge X q with h' | h'
    · have h1 : D * (X + 1) ≤ D * q := Nat.mul_le_mul_left _ h'
      have h2 : D * (X + 1) = X * D + D := by rw [Nat.mul_add, Nat.mul_one, Nat.mul_comm]
      omega
    · exact h'
  rcases Nat.lt_or_eq_of_le hq with h1 | h1
  · split <;> omega
  · subst h1
    have h2 : D * q = q * D := Nat.mul_comm _ _
    rw [if_neg (by omega)]; omega

namespace Format
variable (f : Format)
/-- the rung of the nearest word, whatever the sign -/
def near (mag : Nat) (place : Int) : Nat := f.rung (f.nearest false mag place)
theorem infRung_ltS : f.infRung < f.signWeight := by
  unfold infRung
  rw [signWeight_eq]
  have h1 := f.binade_pos
  have h2 : 0 < 2 ^ f.exponentBits := Nat.two_pow_pos _
  generalize 2 ^ f.exponentBits = E at *
  generalize f.binade = B at *
  exact Nat.mul_lt_mul_of_pos_right (by omega) h1
theorem nearest_near (s : Bool) (mag : Nat) (place : Int) : f.nearest s mag place = f.word s (f.near mag place) := by
  have h0 := f.infRung_ltS
  unfold near nearest
  by_cases h : mag = 0
  · rw [if_pos h, if_pos h, f.rung_word _ f.signWeight_pos]
  · rw [if_neg h, if_neg h]
    dsimp only
    rw [f.rung_word _ (Nat.lt_of_le_of_lt (Nat.min_le_right _ _) h0)]
    simp only [cut_even]
end Format

theorem near_zero (place : Int) : double.near 0 place = 0 := by
  unfold Format.near Format.nearest; rw [if_pos rfl, double.rung_word _ double.signWeight_pos]

theorem near_at (m k : Nat) : double.near m (double.leastPlace + (k : Nat)) = min (double.nr (m * 2 ^ k)) double.infRung := by
  have h0 := double.infRung_ltS
  unfold Format.near
  rw [double.nearest_at, double.rung_word _ (Nat.lt_of_le_of_lt (Nat.min_le_right _ _) h0)]

theorem unit_pow (e : Nat) : double.unit (double.nr (2 ^ e)) = 2 ^ e := by
  have h := double.unit_fl_of_dvd' (N := 2 ^ e) (m := 1) (k := e) (by rw [Nat.one_mul]) (by decide)
  have h2 : double.nr (2 ^ e) = double.fl (2 ^ e) := by
    have := double.nr_unit (by decide) (double.fl (2 ^ e)); rwa [h] at this
  rw [h2, h]
theorem nr_le_pow {N e : Nat} (h : N ≤ 2 ^ e) : double.unit (double.nr N) ≤ 2 ^ e := by
  rw [← unit_pow e]; exact double.unit_le (double.nr_mono hp52 h)
theorem nr_ge_pow {N e : Nat} (h : 2 ^ e ≤ N) : 2 ^ e ≤ double.unit (double.nr N) := by
  rw [← unit_pow e]; exact double.unit_le (double.nr_mono hp52 h)
theorem lt_inf_of_unit {R e : Nat} (h : double.unit R ≤ 2 ^ e) (he : e ≤ 2000) : R < double.infRung := by
  rw [← double.unit_lt_iff]
  have h2 : double.unit double.infRung = 2 ^ top64 := by decide +kernel
  rw [h2]
  exact Nat.lt_of_le_of_lt h (Nat.pow_lt_pow_right (by omega) (by unfold top64; omega))

/-- a number that is at most a power of two is rounded to at most that -/
theorem near_le {mag e b : Nat} {place : Int} (h : mag ≤ 2 ^ e) (hp : (e : Int) + place ≤ double.leastPlace + (b : Nat)) (hb : b ≤ 2000) :
    double.unit (double.near mag place) ≤ 2 ^ b ∧ double.near mag place < double.infRung := by
  have key : double.unit (double.near mag place) ≤ 2 ^ b := by
    by_cases h0 : mag = 0
    · rw [h0, near_zero, double.unit_zero]; exact Nat.zero_le _
    rcases Int.lt_or_le place double.leastPlace with hlt | hge
    · obtain ⟨t, ht⟩ : ∃ t : Nat, place = double.leastPlace - t := ⟨(double.leastPlace - place).toNat, by omega⟩
      have heb : e ≤ t + b := by omega
      have hmb : mag ≤ 2 ^ b * 2 ^ t := by rw [← Nat.pow_add, Nat.add_comm]; exact Nat.le_trans h (Nat.pow_le_pow_right (by omega) heb)
      have hfb : double.fractionBits = 52 := rfl
      have hbin : double.binade = 2 ^ 52 := rfl
      unfold Format.near Format.nearest
      rw [if_neg h0]
      dsimp only
      have hinf := double.infRung_ltS
      have hmin : ∀ q, min q double.infRung < double.signWeight := fun q => Nat.lt_of_le_of_lt (Nat.min_le_right _ _) hinf
      rw [double.rung_word _ (hmin _), hfb]
      clear hmin hinf
      simp only [cut_even, Nat.shiftLeft_eq]
      generalize hlp : double.leastPlace = lp at *
      by_cases hA : place + (mag.log2 : Int) - (52 : Nat) ≤ lp
      · have e1 : max (place + (mag.log2 : Int) - (52 : Nat)) lp = lp := by omega
        rw [e1, show (place - lp).toNat = 0 from by omega, show (lp - place).toNat = t from by omega, show (lp - lp).toNat = 0 from by omega, Nat.pow_zero, Nat.mul_one, Nat.zero_mul, Nat.zero_add]
        have hle := rne_le hmb
        have hr : rne mag t ≤ 2 * double.binade := by
          apply rne_le
          have hl : mag < 2 ^ (mag.log2 + 1) := Nat.lt_log2_self
          have h3 : mag.log2 + 1 ≤ 53 + t := by omega
          have h4 : 2 ^ (mag.log2 + 1) ≤ 2 ^ (53 + t) := Nat.pow_le_pow_right (by omega) h3
          rw [hbin, show 2 * 2 ^ 52 = 2 ^ 53 from by decide, ← Nat.pow_add]; omega
        have hu : double.unit (rne mag t) = rne mag t := by
          generalize rne mag t = r at *
          have hbp := double.binade_pos
          rcases Nat.lt_or_ge r double.binade with h5 | h5
          · have := double.unit_at 0 r (Or.inl ⟨rfl, by omega⟩); simpa using this
          · rcases Nat.lt_or_eq_of_le hr with h6 | h6
            · have := double.unit_at 0 r (Or.inr ⟨h5, h6⟩); simpa using this
            · have := double.unit_at 1 double.binade (Or.inr ⟨Nat.le_refl _, by omega⟩)
              rw [h6, show 2 * double.binade = 1 * double.binade + double.binade from by omega, this]; omega
        have hR : rne mag t < double.infRung := by
          have : (2 : Nat) * double.binade < double.infRung := by decide
          omega
        rw [Nat.min_eq_left (Nat.le_of_lt hR), hu]; exact hle
      · obtain ⟨L, hL⟩ : ∃ L : Nat, place + (mag.log2 : Int) - (52 : Nat) = lp + L := ⟨(place + (mag.log2 : Int) - (52 : Nat) - lp).toNat, by omega⟩
        have hL0 : 1 ≤ L := by omega
        have hd : mag.log2 - 52 = t + L := by omega
        have e1 : max (place + (mag.log2 : Int) - (52 : Nat)) lp = lp + L := by omega
        rw [e1, show (place - (lp + (L : Int))).toNat = 0 from by omega, show (lp + (L : Int) - place).toNat = t + L from by omega, show (lp + (L : Int) - lp).toNat = L from by omega, Nat.pow_zero, Nat.mul_one]
        have hnr : double.nr mag = (L * double.binade + rne mag (t + L)) + t * double.binade := by
          unfold Format.nr
          rw [hfb, hd, Nat.add_mul]; omega
        have hsh := double.unit_shift (a := L * double.binade + rne mag (t + L)) (by
          have : 1 * double.binade ≤ L * double.binade := Nat.mul_le_mul_right _ hL0
          omega) t
        rw [← hnr] at hsh
        have hle := nr_le_pow h
        rw [hsh] at hle
        have h2t : 0 < 2 ^ t := Nat.two_pow_pos _
        have hfin : double.unit (L * double.binade + rne mag (t + L)) ≤ 2 ^ b := by
          have h5 : double.unit (L * double.binade + rne mag (t + L)) * 2 ^ t ≤ 2 ^ b * 2 ^ t := by
            refine Nat.le_trans hle ?_
            rw [← Nat.pow_add]; exact Nat.pow_le_pow_right (by omega) (by omega)
          exact Nat.le_of_mul_le_mul_right h5 h2t
        rw [Nat.min_eq_left (Nat.le_of_lt (lt_inf_of_unit hfin hb))]
        exact hfin
    · obtain ⟨k, hk⟩ : ∃ k : Nat, place = double.leastPlace + (k : Nat) := ⟨(place - double.leastPlace).toNat, by omega⟩
      subst hk
      rw [near_at]
      have h1 : mag * 2 ^ k ≤ 2 ^ b := by
        refine Nat.le_trans (Nat.mul_le_mul_right _ h) ?_
        rw [← Nat.pow_add]; exact Nat.pow_le_pow_right (by omega) (by omega)
      have h2 := nr_le_pow h1
      rw [Nat.min_eq_left (Nat.le_of_lt (lt_inf_of_unit h2 hb))]
      exact h2
  exact ⟨key, lt_inf_of_unit key hb⟩

/-! ### what a finite word reads as -/
def mg (r : Nat) : Nat := if r < double.binade then r else double.binade + r % double.binade
def pl (r : Nat) : Nat := if r < double.binade then 0 else r / double.binade - 1
theorem mg_unit (r : Nat) : mg r * 2 ^ pl r = double.unit r := by
  unfold mg pl Format.unit
  split <;> simp
theorem read_mg {w : Nat} (h : double.rung w < double.infRung) : double.read w = .number (double.neg w) (mg (double.rung w)) (double.leastPlace + (pl (double.rung w) : Nat)) := by
  rw [read_readAt]
  unfold readAt mg pl
  by_cases h1 : double.rung w < double.binade
  · rw [if_pos h1, if_pos h1, if_pos h1]; simp
  · rw [if_neg h1, if_neg h1, if_neg h1, if_pos h]

/-! ### quotients -/
theorem shl_zero (k : Nat) : 0 <<< k = 0 := by rw [Nat.shiftLeft_eq, Nat.zero_mul]
theorem div_some {x y : Nat} (hx : FinW x) (hy : FinW y) {b : Nat} (hb : b ≤ 900) (h0 : V y ≠ 0) (h : (V x).natAbs ≤ 2 ^ b * (V y).natAbs) :
    ∃ R, R < double.infRung ∧ double.unit R ≤ 2 ^ (b + deepD) ∧ ∀ x', FinW x' → double.rung x' = double.rung x → double.div x' y = some (double.word (double.neg x' ^^ double.neg y) R) := by
  rw [V_abs, V_abs, ← mg_unit, ← mg_unit] at h
  have hn0 : mg (double.rung y) ≠ 0 := by
    intro e
    have := V_abs y
    rw [← mg_unit, e, Nat.zero_mul] at this
    omega
  have hxr := hx.2
  have hread : ∀ x', FinW x' → double.rung x' = double.rung x → double.read x' = .number (double.neg x') (mg (double.rung x)) (double.leastPlace + (pl (double.rung x) : Nat)) := by
    intro x' hx' he
    rw [read_mg hx'.2, he]
  have hready := read_mg hy.2
  generalize mg (double.rung x) = m at *
  generalize mg (double.rung y) = n at *
  generalize pl (double.rung x) = k at *
  generalize pl (double.rung y) = l at *
  generalize hmore : (double.fractionBits + 2) + n.log2 - m.log2 = more
  have hq : ∀ x', FinW x' → double.rung x' = double.rung x → double.div x' y = some (double.word (double.neg x' ^^ double.neg y) (double.near (2 * (m * 2 ^ more / n) + (m * 2 ^ more % n != 0).toNat) ((k : Int) - l - more - 1))) := by
    intro x' hx' he
    unfold Format.div
    rw [hread x' hx' he, hready]
    simp only [Datum.quotient]
    rw [if_neg hn0, hmore]
    simp only [Option.map_some, Nat.shiftLeft_eq]
    show some (double.nearest _ _ _) = _
    rw [double.nearest_near]
    congr 3
    omega
  have hlog : n < 2 ^ (n.log2 + 1) := Nat.lt_log2_self
  have key : double.unit (double.near (2 * (m * 2 ^ more / n) + (m * 2 ^ more % n != 0).toNat) ((k : Int) - l - more - 1)) ≤ 2 ^ (b + deepD) ∧ double.near (2 * (m * 2 ^ more / n) + (m * 2 ^ more % n != 0).toNat) ((k : Int) - l - more - 1) < double.infRung := by
    by_cases hm0 : m = 0
    · subst hm0
      have e0 : 2 * (0 * 2 ^ more / n) + (0 * 2 ^ more % n != 0).toNat = 0 := by simp
      rw [e0, near_zero, double.unit_zero]
      exact ⟨Nat.zero_le _, by decide⟩
    · have hml : 2 ^ m.log2 ≤ m := Nat.log2_self_le hm0
      have hge : n ≤ m * 2 ^ more := by
        have h1 : 2 ^ (n.log2 + 1) ≤ 2 ^ (m.log2 + more) := Nat.pow_le_pow_right (by omega) (by
          have : double.fractionBits = 52 := rfl
          omega)
        have h2 : 2 ^ (m.log2 + more) ≤ m * 2 ^ more := by rw [Nat.pow_add]; exact Nat.mul_le_mul_right _ hml
        omega
      have hle : m * 2 ^ more * 2 ^ k ≤ n * 2 ^ (b + l + more) := by
        have := Nat.mul_le_mul_right (2 ^ more) h
        calc m * 2 ^ more * 2 ^ k = m * 2 ^ k * 2 ^ more := by rw [Nat.mul_right_comm]
          _ ≤ 2 ^ b * (n * 2 ^ l) * 2 ^ more := this
          _ = n * 2 ^ (b + l + more) := by rw [Nat.pow_add, Nat.pow_add]; simp only [Nat.mul_assoc, Nat.mul_left_comm]
      have hk : k ≤ b + l + more := by
        rcases Nat.lt_or_ge (b + l + more) k with h' | h'
        · exfalso
          have h1 : n * 2 ^ (b + l + more) < n * 2 ^ k := Nat.mul_lt_mul_of_pos_left (Nat.pow_lt_pow_right (by omega) h') (by omega)
          have h2 : n * 2 ^ k ≤ m * 2 ^ more * 2 ^ k := Nat.mul_le_mul_right _ hge
          omega
        · exact h'
      obtain ⟨e, he⟩ : ∃ e, b + l + more = e + k := ⟨b + l + more - k, by omega⟩
      rw [he, Nat.pow_add, ← Nat.mul_assoc] at hle
      have hd : m * 2 ^ more ≤ n * 2 ^ e := Nat.le_of_mul_le_mul_right hle (Nat.two_pow_pos _)
      have hmag : 2 * (m * 2 ^ more / n) + (m * 2 ^ more % n != 0).toNat ≤ 2 ^ (e + 1) := by
        generalize m * 2 ^ more = a at *
        have hdm := Nat.div_add_mod a n
        rw [Nat.pow_succ]
        generalize 2 ^ e = E at *
        have hq1 : a / n ≤ E := by
          rw [Nat.mul_comm] at hd; exact Nat.div_le_of_le_mul (by rw [Nat.mul_comm]; exact hd)
        rcases Nat.lt_or_eq_of_le hq1 with h1 | h1
        · have : (a % n != 0).toNat ≤ 1 := by cases (a % n != 0) <;> decide
          omega
        · rw [h1] at hdm ⊢
          have : a % n = 0 := by omega
          rw [this]; simp; omega
      exact near_le hmag (by rw [place_d]; unfold deepD; omega) (by unfold deepD; omega)
  exact ⟨_, key.2, key.1, hq⟩

theorem div_zero {x y : Nat} (hx : FinW x) (hy : FinW y) (h0 : V y ≠ 0) (h : double.unit (double.rung x) = 0) :
    ∃ R, R < double.infRung ∧ double.unit R = 0 ∧ double.div x y = some (double.word (double.neg x ^^ double.neg y) R) := by
  have hn0 : mg (double.rung y) ≠ 0 := by
    intro e
    have := V_abs y
    rw [← mg_unit, e, Nat.zero_mul] at this
    omega
  have hm0 : mg (double.rung x) = 0 := by
    rw [← mg_unit] at h
    have hp : 0 < 2 ^ pl (double.rung x) := Nat.two_pow_pos _
    rcases Nat.mul_eq_zero.1 h with h' | h'
    · exact h'
    · omega
  refine ⟨0, by decide, double.unit_zero, ?_⟩
  unfold Format.div
  rw [read_mg hx.2, read_mg hy.2, hm0]
  simp only [Datum.quotient]
  rw [if_neg hn0]
  simp only [Option.map_some, shl_zero, Nat.zero_div, Nat.zero_mod]
  show some (double.nearest _ _ _) = _
  rw [double.nearest_near]
  simp [near_zero]

/-! ### square roots -/
theorem root_spec (n : Nat) : ∀ (todo root : Nat), root * root ≤ n → n < (root + 2 ^ todo) * (root + 2 ^ todo) → Datum.rootFrom n todo root * Datum.rootFrom n todo root ≤ n ∧ n < (Datum.rootFrom n todo root + 1) * (Datum.rootFrom n todo root + 1)
  | 0, root, h1, h2 => ⟨h1, by simpa [Datum.rootFrom] using h2⟩
  | todo + 1, root, h1, h2 => by
    unfold Datum.rootFrom
    simp only [Nat.shiftLeft_eq, Nat.one_mul]
    by_cases h : (root + 2 ^ todo) * (root + 2 ^ todo) ≤ n
    · rw [if_pos h]
      exact root_spec n todo _ h (by rw [Nat.add_assoc, ← Nat.two_mul, ← Nat.pow_succ']; exact h2)
    · rw [if_neg h]
      exact root_spec n todo _ h1 (by omega)

theorem pow_cast (d : Nat) : ((2 ^ d : Nat) : Int) = 2 ^ d := Int.natCast_pow 2 d
theorem sq_le {a b : Nat} (h : a * a ≤ b * b) : a ≤ b := Nat.mul_self_le_mul_self_iff.1 h
theorem sq_lt {a b : Nat} (h : a * a < b * b) : a < b := Nat.mul_self_lt_mul_self_iff.1 h
theorem sqrt_core {n w K c : Nat} {s : Nat} (d : Nat) (r1 : w * w ≤ n) (r2 : n < (w + 1) * (w + 1)) (hs : s = 0 ∨ s = 1 ∧ w * w < n) (h1 : 2 ^ d * 2 ^ d ≤ n * (2 ^ K * 2 ^ K)) (h2 : n * (2 ^ K * 2 ^ K) ≤ 2 ^ (c + d) * 2 ^ (c + d)) :
    2 ^ (d + 1) ≤ (2 * w + s) * 2 ^ K ∧ (2 * w + s) * 2 ^ K ≤ 2 ^ (c + (d + 1)) := by
  have hK : 0 < 2 ^ K := Nat.two_pow_pos _
  have hd : 0 < 2 ^ d := Nat.two_pow_pos _
  have hn : 0 < n := by
    rcases Nat.eq_zero_or_pos n with h | h
    · rw [h, Nat.zero_mul] at h1; have := Nat.mul_pos hd hd; omega
    · exact h
  have hw : 1 ≤ w := by
    rcases Nat.eq_zero_or_pos w with h | h
    · rw [h] at r2; omega
    · exact h
  have a1 : 2 ^ d < (w + 1) * 2 ^ K := by
    apply sq_lt
    calc 2 ^ d * 2 ^ d ≤ n * (2 ^ K * 2 ^ K) := h1
      _ < (w + 1) * (w + 1) * (2 ^ K * 2 ^ K) := Nat.mul_lt_mul_of_pos_right r2 (Nat.mul_pos hK hK)
      _ = (w + 1) * 2 ^ K * ((w + 1) * 2 ^ K) := Nat.mul_mul_mul_comm ..
  have a2 : w * 2 ^ K ≤ 2 ^ (c + d) := by
    apply sq_le
    calc w * 2 ^ K * (w * 2 ^ K) = w * w * (2 ^ K * 2 ^ K) := Nat.mul_mul_mul_comm ..
      _ ≤ n * (2 ^ K * 2 ^ K) := Nat.mul_le_mul_right _ r1
      _ ≤ _ := h2
  have a3 : w * w < n → w * 2 ^ K < 2 ^ (c + d) := fun h => by
    apply sq_lt
    calc w * 2 ^ K * (w * 2 ^ K) = w * w * (2 ^ K * 2 ^ K) := Nat.mul_mul_mul_comm ..
      _ < n * (2 ^ K * 2 ^ K) := Nat.mul_lt_mul_of_pos_right h (Nat.mul_pos hK hK)
      _ ≤ _ := h2
  constructor
  · have b1 : 2 ^ d ≤ w * 2 ^ K := by
      rcases Nat.lt_or_ge d K with h | h
      · have h3 : 2 ^ d ≤ 2 ^ K := Nat.pow_le_pow_right (by omega) (by omega)
        have h4 : 1 * 2 ^ K ≤ w * 2 ^ K := Nat.mul_le_mul_right _ hw
        omega
      · obtain ⟨j, rfl⟩ : ∃ j, d = j + K := ⟨d - K, by omega⟩
        rw [Nat.pow_add] at a1 ⊢
        have := Nat.lt_of_mul_lt_mul_right a1
        exact Nat.mul_le_mul_right _ (by omega)
    rw [Nat.pow_succ, Nat.mul_comm]
    calc 2 * 2 ^ d ≤ 2 * (w * 2 ^ K) := Nat.mul_le_mul_left _ b1
      _ = 2 * w * 2 ^ K := by rw [Nat.mul_assoc]
      _ ≤ _ := Nat.mul_le_mul_right _ (by omega)
  · rw [← Nat.add_assoc, Nat.pow_succ]
    rcases hs with rfl | ⟨rfl, hlt⟩
    · rw [Nat.add_zero, Nat.mul_assoc, Nat.mul_comm]; exact Nat.mul_le_mul_right _ a2
    · have a4 := a3 hlt
      rcases Nat.lt_or_ge (c + d) K with h | h
      · exfalso
        have h3 : 2 ^ (c + d) ≤ 2 ^ K := Nat.pow_le_pow_right (by omega) (by omega)
        have h4 : 1 * 2 ^ K ≤ w * 2 ^ K := Nat.mul_le_mul_right _ hw
        omega
      · obtain ⟨j, hj⟩ : ∃ j, c + d = j + K := ⟨c + d - K, by omega⟩
        rw [hj, Nat.pow_add] at a4 ⊢
        have h5 := Nat.lt_of_mul_lt_mul_right a4
        rw [Nat.mul_right_comm]
        exact Nat.mul_le_mul_right _ (by omega)
theorem sqrt_some {x : Nat} (hx : FinW x) {c : Nat} (hc : c ≤ 900) (h1 : 2 ^ deepD ≤ V x) (h2 : V x ≤ 2 ^ (2 * c + deepD)) :
    ∃ r, double.sqrt x = some r ∧ FinW r ∧ 2 ^ deepD ≤ V r ∧ V r ≤ 2 ^ (c + deepD) := by
  have hpos : double.neg x = false := by
    cases hn : double.neg x
    · rfl
    · exfalso
      have : V x ≤ 0 := by unfold V Format.sval; rw [hn]; simp
      have h3 : (0 : Int) < 2 ^ deepD := Int.pow_pos (by omega)
      omega
  have hVu : V x = (double.unit (double.rung x) : Int) := by unfold V Format.sval; rw [hpos]; simp
  have hread := read_mg hx.2
  rw [hpos] at hread
  rw [hVu, ← mg_unit] at h1 h2
  have h1' : 2 ^ deepD ≤ mg (double.rung x) * 2 ^ pl (double.rung x) := by rw [← pow_cast] at h1; exact Int.ofNat_le.1 h1
  have h2' : mg (double.rung x) * 2 ^ pl (double.rung x) ≤ 2 ^ (2 * c + deepD) := by rw [← pow_cast] at h2; exact Int.ofNat_le.1 h2
  have hm53 : (mg (double.rung x)).log2 ≤ 52 := by
    have hb := double.binade_pos
    have : mg (double.rung x) < 2 ^ 53 := by
      have hbin : double.binade = 2 ^ 52 := rfl
      unfold mg
      split
      · rw [hbin] at *; omega
      · have := Nat.mod_lt (double.rung x) hb
        rw [hbin] at this ⊢; omega
    rcases Nat.eq_zero_or_pos (mg (double.rung x)) with h0 | h0
    · rw [h0]; decide
    · have := (Nat.log2_lt (by omega)).2 this; omega
  clear h1 h2 hVu
  generalize mg (double.rung x) = m at *
  generalize pl (double.rung x) = k at *
  have hm0 : m ≠ 0 := by
    intro e; rw [e, Nat.zero_mul] at h1'
    have := Nat.two_pow_pos deepD; omega
  have hlp := place_d
  generalize hmore : 2 * (double.fractionBits + 2) - m.log2 + ((double.leastPlace + (k : Int) - ((2 * (double.fractionBits + 2) - m.log2 : Nat) : Int)) % 2).toNat = more
  have hr : (double.read x).root (double.fractionBits + 2) = some (.number false (2 * Datum.rootFrom (m <<< more) ((m <<< more).log2 / 2 + 1) 0 + (Datum.rootFrom (m <<< more) ((m <<< more).log2 / 2 + 1) 0 * Datum.rootFrom (m <<< more) ((m <<< more).log2 / 2 + 1) 0 != m <<< more).toNat) ((double.leastPlace + (k : Int) - (more : Int)) / 2 - 1)) := by
    rw [hread]
    simp only [Datum.root, hm0, if_false, Bool.false_eq_true]
    rw [hmore]
  have hfb : double.fractionBits = 52 := rfl
  rw [hfb] at hmore
  obtain ⟨K, hK⟩ : ∃ K : Nat, (double.leastPlace + (k : Int) - (more : Int)) / 2 - 1 = double.leastPlace + (K : Nat) := ⟨((double.leastPlace + (k : Int) - (more : Int)) / 2 - 1 - double.leastPlace).toNat, by rw [hlp] at *; omega⟩
  have hkK0 : k + 1072 = 2 * K + more := by rw [hlp] at *; omega
  obtain ⟨A, hA⟩ : ∃ A : Nat, A = 1072 := ⟨_, rfl⟩
  have hd : deepD = A + 1 + 1 := by rw [hA]; rfl
  have hkK : k + A = 2 * K + more := by rw [hA]; exact hkK0
  have hcA : c + deepD ≤ 2000 := by rw [hd, hA]; omega
  clear hkK0 hA
  rw [hK, Nat.shiftLeft_eq] at hr
  obtain ⟨n, hn⟩ : ∃ n, m * 2 ^ more = n := ⟨_, rfl⟩
  rw [hn] at hr
  have hsp := root_spec n (n.log2 / 2 + 1) 0 (Nat.zero_le _) (by
    rw [Nat.zero_add, ← Nat.pow_add]
    exact Nat.lt_of_lt_of_le Nat.lt_log2_self (Nat.pow_le_pow_right (by omega) (by omega)))
  generalize Datum.rootFrom n (n.log2 / 2 + 1) 0 = w at *
  have hs : (w * w != n).toNat = 0 ∨ (w * w != n).toNat = 1 ∧ w * w < n := by
    by_cases h : w * w = n
    · left; rw [h]; simp
    · right; exact ⟨by simp [h], by omega⟩
  have hnK : n * (2 ^ K * 2 ^ K) = m * 2 ^ k * 2 ^ A := by
    rw [← hn, ← Nat.pow_add, Nat.mul_assoc, ← Nat.pow_add, Nat.mul_assoc, ← Nat.pow_add]
    congr 2; omega
  have hcore := sqrt_core (n := n) (w := w) (K := K) (c := c) (A + 1) hsp.1 hsp.2 hs (by
      rw [hnK, ← Nat.pow_add, show A + 1 + (A + 1) = deepD + A from by rw [hd]; omega, Nat.pow_add]
      exact Nat.mul_le_mul_right _ h1') (by
      rw [hnK, ← Nat.pow_add, show c + (A + 1) + (c + (A + 1)) = (2 * c + deepD) + A from by rw [hd]; omega, Nat.pow_add]
      exact Nat.mul_le_mul_right _ h2')
  rw [← hd] at hcore
  generalize 2 * w + (w * w != n).toNat = mag at *
  have hup := nr_le_pow hcore.2
  have hlo := nr_ge_pow hcore.1
  have hinf := lt_inf_of_unit hup hcA
  refine ⟨double.word false (double.nr (mag * 2 ^ K)), ?_, finw_word _ hinf, ?_, ?_⟩
  · unfold Format.sqrt
    rw [hr, Option.map_some]
    show some (double.nearest _ _ _) = _
    rw [double.nearest_near, near_at, Nat.min_eq_left (Nat.le_of_lt hinf)]
  · rw [V_word _ hinf, if_neg (by simp), ← pow_cast]; exact Int.ofNat_le.2 hlo
  · rw [V_word _ hinf, if_neg (by simp), ← pow_cast]; exact Int.ofNat_le.2 hup
end Ieee
