/- Plain facts: which whole numbers of units are words; from binary32 to binary64 and back. Conditions: words of their formats, no NaN. -/
import Derived.Test.YtlegkefonpiakaaFlB
namespace Ieee
namespace Format
variable (f : Format)

theorem unit_fl_of_dvd {N k m : Nat} (hN : N = m * 2 ^ k) (hm : m < 2 * f.binade) : f.unit (f.fl N) = N := by
  rw [(f.fl_parts N).1]
  have hL : N.log2 - f.fractionBits ≤ k := by
    by_cases h0 : N = 0
    · rw [h0, show Nat.log2 0 = 0 from by decide]; omega
    · have h1 : N < 2 ^ (f.fractionBits + 1 + k) := by
        rw [hN, Nat.pow_add]
        have : m < 2 ^ (f.fractionBits + 1) := by rw [Nat.pow_succ]; unfold binade at hm; omega
        exact Nat.mul_lt_mul_of_pos_right this (Nat.two_pow_pos _)
      have := (Nat.log2_lt h0).2 h1
      omega
  obtain ⟨j, hj⟩ : ∃ j, k = j + (N.log2 - f.fractionBits) := ⟨k - (N.log2 - f.fractionBits), by omega⟩
  generalize N.log2 - f.fractionBits = L at *
  have : N = (m * 2 ^ j) * 2 ^ L := by rw [hN, hj, Nat.pow_add, Nat.mul_assoc]
  rw [this, Nat.mul_div_cancel _ (Nat.two_pow_pos _)]

theorem unit_exists (m k : Nat) (hm : m < 2 * f.binade) : ∃ R, f.unit R = m * 2 ^ k := ⟨_, f.unit_fl_of_dvd rfl hm⟩

/-- every unit is a small number times a power -/
theorem unit_form (r : Nat) : ∃ m k, f.unit r = m * 2 ^ k ∧ m < 2 * f.binade := by
  have hB := f.binade_pos
  unfold unit
  by_cases h : r < f.binade
  · rw [if_pos h]; exact ⟨r, 0, by simp, by omega⟩
  · rw [if_neg h]; exact ⟨_, _, rfl, by have := Nat.mod_lt r hB; omega⟩

theorem nr_of_unit (hp : 1 ≤ f.fractionBits) {N R : Nat} (h : f.unit R = N) : f.nr N = R := by rw [← h]; exact f.nr_unit hp R

/-- 'mag * 2 ^ place' that is a word's unit is that word -/
theorem nearest_exact (hp : 1 ≤ f.fractionBits) (s : Bool) {m k R : Nat} (h : f.unit R = m * 2 ^ k) (hR : R ≤ f.infRung) : f.nearest s m (f.leastPlace + (k : Nat)) = f.word s R := by
  rw [nearest_at, f.nr_of_unit hp h, Nat.min_eq_left hR]
end Format

/-- so many places further down binary64 goes -/
def deep : Nat := 925
theorem single_place : single.leastPlace = double.leastPlace + (deep : Nat) := by decide
theorem ok_single : single.binade ≤ single.infRung := by decide
theorem ok_double : double.binade ≤ double.infRung := by decide

/-- the rung in binary64 of a rung of binary32 -/
def wideR (r : Nat) : Nat := if r < single.infRung then double.fl (single.unit r * 2 ^ deep) else double.infRung

theorem wideR_unit {r : Nat} (h : r < single.infRung) : double.unit (wideR r) = single.unit r * 2 ^ deep := by
  unfold wideR; rw [if_pos h]
  obtain ⟨m, k, hu, hm⟩ := single.unit_form r
  have hm2 : m < 2 * double.binade := Nat.lt_of_lt_of_le hm (by decide)
  refine double.unit_fl_of_dvd (m := m) (k := k + deep) ?_ hm2
  rw [hu, Nat.pow_add, Nat.mul_assoc]

def top32 : Nat := 277
def top64 : Nat := 2098
theorem single_unit_lt {r : Nat} (h : r < single.infRung) : single.unit r < 2 ^ top32 := by
  have h1 := single.unit_lt h
  have h2 : single.unit single.infRung = 2 ^ top32 := by decide +kernel
  rw [h2] at h1; exact h1

theorem wideR_lt {r : Nat} (h : r < single.infRung) : wideR r < double.infRung := by
  refine double.unit_lt_iff.1 ?_
  rw [wideR_unit h]
  have h1 := single_unit_lt h
  have h2 : double.unit double.infRung = 2 ^ top64 := by decide +kernel
  rw [h2]
  have h3 : single.unit r * 2 ^ deep < 2 ^ top32 * 2 ^ deep := Nat.mul_lt_mul_of_pos_right h1 (Nat.two_pow_pos _)
  rw [← Nat.pow_add] at h3
  exact Nat.lt_trans h3 (Nat.pow_lt_pow_right (by omega) (by decide))

theorem wideR_inf : wideR single.infRung = double.infRung := by unfold wideR; rw [if_neg (by omega)]

theorem wideR_mono {r s : Nat} (h : r < s) (hs : s ≤ single.infRung) : wideR r < wideR s := by
  have hr : r < single.infRung := by omega
  rcases Nat.lt_or_eq_of_le hs with hs | hs
  · refine double.unit_lt_iff.1 ?_
    rw [wideR_unit hr, wideR_unit hs]
    exact Nat.mul_lt_mul_of_pos_right (single.unit_lt h) (Nat.two_pow_pos _)
  · rw [hs, wideR_inf]; exact wideR_lt hr

/-- from binary32 to binary64 -/
theorem write_wide {y : Nat} (h : single.rung y ≤ single.infRung) : (∃ s m e, single.read y = .number s m e ∧ double.write (.number s m e) = double.word (single.neg y) (wideR (single.rung y)) ∧ single.rung y < single.infRung) ∨ (single.read y = .infinity (single.neg y) ∧ single.rung y = single.infRung) := by
  rcases Nat.lt_or_eq_of_le h with h | h
  · obtain ⟨m, k, hr, hm, _⟩ := single.read_fin h
    refine Or.inl ⟨_, _, _, hr, ?_, h⟩
    show double.nearest _ _ _ = _
    rw [single_place, show double.leastPlace + (deep : Nat) + (k : Nat) = double.leastPlace + ((k + deep : Nat) : Int) from by omega]
    refine double.nearest_exact (by decide) _ ?_ (Nat.le_of_lt (wideR_lt h))
    rw [wideR_unit h, ← hm, Nat.pow_add, Nat.mul_assoc]
  · exact Or.inr ⟨single.read_inf ok_single h, h⟩

/-- back -/
theorem write_back {s : Bool} {r : Nat} (h : r < single.infRung) : ∃ m e, double.read (double.word s (wideR r)) = .number s m e ∧ single.write (.number s m e) = single.word s r := by
  have hw := wideR_lt h
  have hs : wideR r < double.signWeight := Nat.lt_trans hw (by decide)
  have hrung := double.rung_word s hs
  have hneg := double.neg_word s hs
  obtain ⟨m, k, hr, hm, _⟩ := double.read_fin (w := double.word s (wideR r)) (by rw [hrung]; exact hw)
  rw [hneg] at hr
  rw [hrung, wideR_unit h] at hm
  refine ⟨_, _, hr, ?_⟩
  show single.nearest _ _ _ = _
  rw [← Format.nearest_scale, hm, Format.nearest_scale, ← single_place]
  have := single.nearest_exact (s := s) (by decide) (m := single.unit r) (k := 0) (R := r) (by simp) (Nat.le_of_lt h)
  simpa using this
end Ieee
