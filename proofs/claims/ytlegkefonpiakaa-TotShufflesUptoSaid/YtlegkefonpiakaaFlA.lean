/- Plain facts on the floats of Ieee: rungs, units (whole numbers of the least place), their order. Conditions: at least two bits of each field where said. -/
import Ieee.Arith
namespace Ieee
namespace Format
variable (f : Format)

/-- the magnitude of a rung, in units of the least place -/
def unit (r : Nat) : Nat := if r < f.binade then r else (f.binade + r % f.binade) * 2 ^ (r / f.binade - 1)

/-- the step above a rung -/
def gap (r : Nat) : Nat := 2 ^ (r / f.binade - 1)

theorem binade_pos : 0 < f.binade := Nat.two_pow_pos _

theorem gap_pos (r : Nat) : 0 < f.gap r := Nat.two_pow_pos _

theorem unit_succ (r : Nat) : f.unit (r + 1) = f.unit r + f.gap r := by
  have hB := f.binade_pos
  unfold unit gap
  generalize f.binade = B at *
  by_cases h1 : r + 1 < B
  · rw [if_pos h1, if_pos (by omega), Nat.div_eq_of_lt (by omega)]
  · rw [if_neg h1]
    by_cases h2 : r < B
    · have e : r + 1 = B := by omega
      rw [if_pos h2, e, Nat.div_eq_of_lt h2, Nat.mod_self, Nat.div_self hB]; simp; omega
    · rw [if_neg h2]
      have hq : 1 ≤ r / B := (Nat.one_le_div_iff hB).2 (by omega)
      have hdm := Nat.div_add_mod r B
      have hml := Nat.mod_lt r hB
      by_cases h3 : r % B + 1 = B
      · have e1 : (r + 1) = B * (r / B + 1) := by rw [Nat.mul_add]; omega
        have e2 : (r + 1) / B = r / B + 1 := by rw [e1]; exact Nat.mul_div_cancel_left _ hB
        have e3 : (r + 1) % B = 0 := by rw [e1]; exact Nat.mul_mod_right _ _
        rw [e2, e3]
        obtain ⟨q, hq'⟩ : ∃ q, r / B = q + 1 := ⟨r / B - 1, by omega⟩
        rw [hq']
        have : B + r % B + 1 = 2 * B := by omega
        show (B + 0) * 2 ^ (q + 1) = (B + r % B) * 2 ^ q + 2 ^ q
        rw [Nat.add_zero, Nat.pow_succ, ← Nat.succ_mul]
        show _ = (B + r % B + 1) * 2 ^ q
        rw [this, Nat.mul_comm (2 ^ q) 2, ← Nat.mul_assoc, Nat.mul_comm B 2]
      · have e2 : (r + 1) / B = r / B := by
          rw [Nat.div_eq_iff hB]
          constructor
          · rw [Nat.mul_comm]; omega
          · rw [Nat.mul_comm]; omega
        have e3 : (r + 1) % B = r % B + 1 := by
          have := Nat.div_add_mod (r + 1) B
          rw [e2] at this; omega
        rw [e2, e3, ← Nat.add_assoc]
        exact Nat.succ_mul _ _

theorem unit_lt_succ (r : Nat) : f.unit r < f.unit (r + 1) := by
  rw [unit_succ]; exact Nat.lt_add_of_pos_right (f.gap_pos r)

theorem unit_lt {r s : Nat} (h : r < s) : f.unit r < f.unit s := by
  induction h with
  | refl => exact f.unit_lt_succ r
  | step _ ih => exact Nat.lt_trans ih (f.unit_lt_succ _)

theorem unit_le {r s : Nat} (h : r ≤ s) : f.unit r ≤ f.unit s := by
  rcases Nat.lt_or_eq_of_le h with h | h
  · exact Nat.le_of_lt (f.unit_lt h)
  · rw [h]; exact Nat.le_refl _

theorem unit_lt_iff {r s : Nat} : f.unit r < f.unit s ↔ r < s := by
  constructor
  · intro h; rcases Nat.lt_or_ge r s with h' | h'
    · exact h'
    · exact absurd (f.unit_le h') (Nat.not_le.2 h)
  · exact f.unit_lt

theorem unit_inj {r s : Nat} (h : f.unit r = f.unit s) : r = s := by
  rcases Nat.lt_trichotomy r s with h' | h' | h'
  · have := f.unit_lt h'; omega
  · exact h'
  · have := f.unit_lt h'; omega

@[simp] theorem unit_zero : f.unit 0 = 0 := by unfold unit; rw [if_pos f.binade_pos]

theorem unit_eq_zero {r : Nat} : f.unit r = 0 ↔ r = 0 := by
  constructor
  · intro h; exact f.unit_inj (by rw [h, unit_zero])
  · rintro rfl; exact f.unit_zero

theorem gap_mono {r s : Nat} (h : r ≤ s) : f.gap r ≤ f.gap s :=
  Nat.pow_le_pow_right (by omega) (Nat.sub_le_sub_right (Nat.div_le_div_right h) 1)

/-- the rung and the sign of a word -/
def rung (w : Nat) : Nat := w % f.signWeight
def neg (w : Nat) : Bool := w / f.signWeight % 2 == 1

theorem signWeight_pos : 0 < f.signWeight := Nat.two_pow_pos _
theorem signWeight_eq : f.signWeight = 2 ^ f.exponentBits * f.binade := by unfold signWeight binade; rw [Nat.pow_add]
theorem rung_lt (w : Nat) : f.rung w < f.signWeight := Nat.mod_lt _ f.signWeight_pos

theorem word_eq {w : Nat} (h : w < 2 * f.signWeight) : f.word (f.neg w) (f.rung w) = w := by
  unfold word neg rung
  have hS := f.signWeight_pos
  generalize f.signWeight = S at *
  have hd : w / S < 2 := by rw [Nat.div_lt_iff_lt_mul hS]; omega
  have := Nat.div_add_mod w S
  have h01 : w / S = 0 ∨ w / S = 1 := by generalize w / S = q at hd; omega
  rcases h01 with h0 | h0
  · rw [h0] at this ⊢; simpa using this
  · rw [h0] at this ⊢; simpa using this

theorem rung_word (s : Bool) {r : Nat} (h : r < f.signWeight) : f.rung (f.word s r) = r := by
  unfold rung word
  cases s
  · simp [Nat.mod_eq_of_lt h]
  · simp [Nat.mod_eq_of_lt h]

theorem neg_word (s : Bool) {r : Nat} (h : r < f.signWeight) : f.neg (f.word s r) = s := by
  unfold neg word
  have hS := f.signWeight_pos
  cases s
  · simp [Nat.div_eq_of_lt h]
  · simp [Nat.add_div_left _ hS, Nat.div_eq_of_lt h]

theorem word_inj {s t : Bool} {r q : Nat} (hr : r < f.signWeight) (hq : q < f.signWeight) (h : f.word s r = f.word t q) : s = t ∧ r = q := by
  have h1 := congrArg f.neg h
  have h2 := congrArg f.rung h
  rw [neg_word f _ hr, neg_word f _ hq] at h1
  rw [rung_word f _ hr, rung_word f _ hq] at h2
  exact ⟨h1, h2⟩

/-- what a finite word reads as: its unit at a place not below the least -/
theorem read_fin {w : Nat} (h : f.rung w < f.infRung) : ∃ m k, f.read w = .number (f.neg w) m (f.leastPlace + (k : Nat)) ∧ m * 2 ^ k = f.unit (f.rung w) ∧ (m = 0 ↔ f.rung w = 0) := by
  have hB := f.binade_pos
  unfold read
  show ∃ m k, (if f.rung w < f.binade then Datum.number (f.neg w) (f.rung w) f.leastPlace else if f.rung w < f.infRung then Datum.number (f.neg w) (f.binade + f.rung w % f.binade) (f.leastPlace + (f.rung w / f.binade - 1 : Nat)) else _) = _ ∧ _
  by_cases h1 : f.rung w < f.binade
  · rw [if_pos h1]
    exact ⟨f.rung w, 0, by simp, by unfold unit; rw [if_pos h1]; simp, Iff.rfl⟩
  · rw [if_neg h1, if_pos h]
    exact ⟨_, _, rfl, by unfold unit; rw [if_neg h1], by omega⟩

theorem read_inf (hE : f.binade ≤ f.infRung) {w : Nat} (h : f.rung w = f.infRung) : f.read w = .infinity (f.neg w) := by
  unfold read
  show (if f.rung w < f.binade then Datum.number (f.neg w) (f.rung w) f.leastPlace else if f.rung w < f.infRung then _ else if f.rung w = f.infRung then Datum.infinity (f.neg w) else _) = _
  rw [if_neg (by omega), if_neg (by omega), if_pos h]

theorem read_nan (hE : f.binade ≤ f.infRung) {w : Nat} (h : f.infRung < f.rung w) : f.read w = .nan (f.neg w) (f.rung w - f.infRung) := by
  unfold read
  show (if f.rung w < f.binade then Datum.number (f.neg w) (f.rung w) f.leastPlace else if f.rung w < f.infRung then _ else if f.rung w = f.infRung then Datum.infinity (f.neg w) else Datum.nan (f.neg w) (f.rung w - f.infRung)) = _
  rw [if_neg (by omega), if_neg (by omega), if_neg (by omega)]

/-- the signed magnitude of a finite word, in units; the signed rung of any word -/
def sval (w : Nat) : Int := if f.neg w then -(f.unit (f.rung w) : Int) else f.unit (f.rung w)
def skey (w : Nat) : Int := if f.neg w then -(f.rung w : Int) else f.rung w

theorem signed_eq (s : Bool) (m u : Nat) : signed s m u = if s then -((m * 2 ^ u : Nat) : Int) else ((m * 2 ^ u : Nat) : Int) := by
  unfold signed; simp only [Nat.shiftLeft_eq]

theorem signed_scale (s : Bool) (m u k : Nat) : signed s m (u + k) = signed s m u * 2 ^ k := by
  simp only [signed_eq, Nat.pow_add, ← Nat.mul_assoc]
  cases s
  · simp
  · simp [Int.neg_mul]

theorem compare_scale (a b : Int) (k : Nat) : compare (a * 2 ^ k) (b * 2 ^ k) = compare a b := by
  have h2 : (0 : Int) < 2 ^ k := Int.pow_pos (by omega)
  simp only [compare, compareOfLessAndEq, Int.mul_lt_mul_right h2]
  by_cases h : a = b
  · simp [h]
  · have : ¬ a * 2 ^ k = b * 2 ^ k := fun e => h (Int.eq_of_mul_eq_mul_right (by omega) e)
    simp [h, this]

theorem sval_lt_iff (v w : Nat) : f.sval v < f.sval w ↔ f.skey v < f.skey w := by
  unfold sval skey
  have h1 := @unit_lt_iff f (f.rung v) (f.rung w)
  have h2 := @unit_lt_iff f (f.rung w) (f.rung v)
  have h3 := @unit_eq_zero f (f.rung w)
  have h4 := @unit_eq_zero f (f.rung v)
  cases f.neg v <;> cases f.neg w <;> simp <;> omega

theorem sval_eq_iff (v w : Nat) : f.sval v = f.sval w ↔ f.skey v = f.skey w := by
  have h1 := f.sval_lt_iff v w
  have h2 := f.sval_lt_iff w v
  omega

theorem compare_sval (v w : Nat) : compare (f.sval v) (f.sval w) = compare (f.skey v) (f.skey w) := by
  simp only [compare, compareOfLessAndEq, sval_lt_iff, sval_eq_iff]

theorem compare_lt' {a b : Int} (h : a < b) : compare a b = .lt := by simp [compare, compareOfLessAndEq, h]
theorem compare_gt' {a b : Int} (h : b < a) : compare a b = .gt := by
  simp only [compare, compareOfLessAndEq]; rw [if_neg (by omega), if_neg (by omega)]
theorem compare_eq' {a b : Int} (h : a = b) : compare a b = .eq := by
  simp only [compare, compareOfLessAndEq]; rw [if_neg (by omega), if_pos h]

/-- how two words compare: by their signed rungs -/
theorem order_eq (hE : f.binade ≤ f.infRung) {v w : Nat} (hv : f.rung v ≤ f.infRung) (hw : f.rung w ≤ f.infRung) : f.order v w = some (compare (f.skey v) (f.skey w)) := by
  have hB := f.binade_pos
  unfold order
  rcases Nat.lt_or_eq_of_le hv with hv | hv <;> rcases Nat.lt_or_eq_of_le hw with hw | hw
  · obtain ⟨m, i, hr, hm, _⟩ := f.read_fin hv
    obtain ⟨n, j, hr', hn, _⟩ := f.read_fin hw
    rw [hr, hr']
    simp only [Datum.order]
    rw [← compare_sval]
    congr 1
    generalize hb : min (f.leastPlace + (i : Nat)) (f.leastPlace + (j : Nat)) = base
    obtain ⟨b, hb'⟩ : ∃ b : Nat, base = f.leastPlace + (b : Nat) := ⟨min i j, by omega⟩
    have e1 : signed (f.neg v) m (f.leastPlace + (i : Nat) - base).toNat * 2 ^ b = f.sval v := by
      rw [← signed_scale, signed_eq]
      have : (f.leastPlace + (i : Nat) - base).toNat + b = i := by omega
      rw [this, hm]; rfl
    have e2 : signed (f.neg w) n (f.leastPlace + (j : Nat) - base).toNat * 2 ^ b = f.sval w := by
      rw [← signed_scale, signed_eq]
      have : (f.leastPlace + (j : Nat) - base).toNat + b = j := by omega
      rw [this, hn]; rfl
    rw [← e1, ← e2, compare_scale]
  · obtain ⟨m, i, hr, hm, _⟩ := f.read_fin hv
    rw [hr, f.read_inf hE hw]
    simp only [Datum.order]
    congr 1
    unfold skey
    rw [hw]
    cases f.neg w
    · exact (compare_lt' (by cases f.neg v <;> simp <;> omega)).symm
    · exact (compare_gt' (by cases f.neg v <;> simp <;> omega)).symm
  · obtain ⟨m, i, hr, hm, _⟩ := f.read_fin hw
    rw [hr, f.read_inf hE hv]
    simp only [Datum.order]
    congr 1
    unfold skey
    rw [hv]
    cases f.neg v
    · exact (compare_gt' (by cases f.neg w <;> simp <;> omega)).symm
    · exact (compare_lt' (by cases f.neg w <;> simp <;> omega)).symm
  · rw [f.read_inf hE hv, f.read_inf hE hw]
    simp only [Datum.order]
    congr 1
    unfold skey
    rw [hv, hw]
    have : 0 < f.infRung := by omega
    cases f.neg v <;> cases f.neg w
    · exact (compare_eq' rfl).symm
    · exact (compare_gt' (by simp; omega)).symm
    · exact (compare_lt' (by simp; omega)).symm
    · exact (compare_eq' rfl).symm

theorem order_nan_left (hE : f.binade ≤ f.infRung) {v w : Nat} (h : f.infRung < f.rung v) : f.order v w = none := by
  unfold order; rw [f.read_nan hE h]; simp [Datum.order]

theorem order_nan_right (hE : f.binade ≤ f.infRung) {v w : Nat} (h : f.infRung < f.rung w) : f.order v w = none := by
  unfold order; rw [f.read_nan hE h]
  cases f.read v <;> simp [Datum.order]

end Format
end Ieee
