/- Plain law: what the raw answers of W1, W2 come to, in terms of rung and sign. Conditions: words of 64 bits. -/
import Derived.Test.YtepgmeinbililaaW3
import Derived.Test.YtepgmeinbililaaBit
namespace Go.Proofs.Ytepgmeinbililaa
open Go.RowKit

def inf64 : Nat := 9218868437227405312

/-- a word's place among the numbers by value: signed rung -/
def sk (x : Nat) : Int := if ng x then -(rg x : Int) else (rg x : Int)

theorem rung_d (x : Nat) : Ieee.double.rung x = rg x := rfl
theorem infRung_d : Ieee.double.infRung = inf64 := by decide
theorem neg_d {x : Nat} (h : x < 18446744073709551616) : Ieee.double.neg x = ng x := by
  show (x / 9223372036854775808 % 2 == 1) = decide (9223372036854775808 ≤ x)
  by_cases h' : 9223372036854775808 ≤ x
  · have : x / 9223372036854775808 = 1 := by omega
    rw [this]; simp [h']
  · have : x / 9223372036854775808 = 0 := by omega
    rw [this]; simp [h']
theorem skey_d {x : Nat} (h : x < 18446744073709551616) : Ieee.double.skey x = sk x := by
  unfold Ieee.Format.skey sk; rw [neg_d h, rung_d]
theorem okE : Ieee.double.binade ≤ Ieee.double.infRung := by decide

theorem o64_nan1 {x : Nat} (y : Nat) (h : inf64 < rg x) : o64 x y = none := Ieee.double.order_nan_left okE (by rw [rung_d, infRung_d]; exact h)
theorem o64_nan2 (x : Nat) {y : Nat} (h : inf64 < rg y) : o64 x y = none := Ieee.double.order_nan_right okE (by rw [rung_d, infRung_d]; exact h)
theorem o64_num {x y : Nat} (hx : x < 18446744073709551616) (hy : y < 18446744073709551616) (h : rg x ≤ inf64) (h' : rg y ≤ inf64) : o64 x y = some (compare (sk x) (sk y)) := by
  rw [← skey_d hx, ← skey_d hy]
  exact Ieee.double.order_eq okE (by rw [rung_d, infRung_d]; exact h) (by rw [rung_d, infRung_d]; exact h')

theorem cmp_lt {a b : Int} : compare a b = .lt ↔ a < b := by
  simp only [compare, compareOfLessAndEq]; split
  · simp_all
  · split <;> simp_all
theorem cmp_eq {a b : Int} : compare a b = .eq ↔ a = b := by
  simp only [compare, compareOfLessAndEq]; split
  · simp_all; omega
  · split <;> simp_all
theorem cmp_gt {a b : Int} : compare a b = .gt ↔ b < a := by
  simp only [compare, compareOfLessAndEq]; split
  · simp_all; omega
  · split <;> simp_all; omega

theorem o64_lt {x y : Nat} (hx : x < 18446744073709551616) (hy : y < 18446744073709551616) : o64 x y = some .lt ↔ (rg x ≤ inf64 ∧ rg y ≤ inf64 ∧ sk x < sk y) := by
  by_cases h : rg x ≤ inf64
  · by_cases h' : rg y ≤ inf64
    · rw [o64_num hx hy h h']; simp only [Option.some.injEq, cmp_lt]; simp [h, h']
    · rw [o64_nan2 x (by omega)]; simp [h']
  · rw [o64_nan1 y (by omega)]; simp [h]
theorem o64_gt {x y : Nat} (hx : x < 18446744073709551616) (hy : y < 18446744073709551616) : o64 x y = some .gt ↔ (rg x ≤ inf64 ∧ rg y ≤ inf64 ∧ sk y < sk x) := by
  by_cases h : rg x ≤ inf64
  · by_cases h' : rg y ≤ inf64
    · rw [o64_num hx hy h h']; simp only [Option.some.injEq, cmp_gt]; simp [h, h']
    · rw [o64_nan2 x (by omega)]; simp [h']
  · rw [o64_nan1 y (by omega)]; simp [h]
theorem o64_eq {x y : Nat} (hx : x < 18446744073709551616) (hy : y < 18446744073709551616) : o64 x y = some .eq ↔ (rg x ≤ inf64 ∧ rg y ≤ inf64 ∧ sk x = sk y) := by
  by_cases h : rg x ≤ inf64
  · by_cases h' : rg y ≤ inf64
    · rw [o64_num hx hy h h']; simp only [Option.some.injEq, cmp_eq]; simp [h, h']
    · rw [o64_nan2 x (by omega)]; simp [h']
  · rw [o64_nan1 y (by omega)]; simp [h]
theorem o64_self {x : Nat} (hx : x < 18446744073709551616) : o64 x x = some .eq ↔ rg x ≤ inf64 := by
  rw [o64_eq hx hx]; simp

/-- the place in the order of all numbers, the NaN the greatest, -0 below +0 -/
def ordKey (x : Nat) : Int := if inf64 < rg x then 9221120237041090560 else if ng x then -(rg x : Int) - 1 else rg x
def cmpZ (a b : Int) : Int := if a < b then -1 else if b < a then 1 else 0
/-- the classes by the rung -/
def clsOf (r : Nat) : Int := if r = 0 then 1 else if r < 4503599627370496 then 2 else if r < inf64 then 3 else if r = inf64 then 4 else 5

theorem sk_rg (x : Nat) : sk (rg x) = rg x := by unfold sk; rw [ng_rg]; simp [rg_rg]
theorem sk_of_lt {x : Nat} (h : x < 9223372036854775808) : sk x = x := by
  unfold sk; rw [show ng x = false from by unfold ng; simp; omega, rg_of_lt h]; simp

theorem orderRaw_eq {x y : Nat} (hx : x < 18446744073709551616) (hy : y < 18446744073709551616) : orderRaw ng x y = cmpZ (ordKey x) (ordKey y) := by
  unfold orderRaw
  simp only [o64_self hx, o64_self hy, o64_lt hx hy, o64_gt hx hy, ne_eq]
  unfold cmpZ ordKey sk
  have hi : inf64 = 9218868437227405312 := rfl
  have h1 := rg_lt x
  have h2 := rg_lt y
  generalize rg x = a at *
  generalize rg y = b at *
  cases ng x <;> cases ng y <;> simp only [Bool.false_eq_true, if_false, if_true] <;> grind

theorem classRaw_eq {x : Nat} (hx : x < 18446744073709551616) : classRaw rg x = clsOf (rg x) := by
  have h1 := rg_lt x
  unfold classRaw clsOf
  have hi : inf64 = 9218868437227405312 := rfl
  have hr : rg x < 18446744073709551616 := by omega
  simp only [o64_self hx, o64_eq hr (show 0 < 18446744073709551616 from by omega), o64_gt hr (show 9218868437227405311 < 18446744073709551616 from by omega), o64_lt hr (show 4503599627370496 < 18446744073709551616 from by omega), ne_eq, sk_rg, rg_rg]
  rw [show sk 0 = 0 from by decide, show sk 9218868437227405311 = 9218868437227405311 from by decide, show sk 4503599627370496 = 4503599627370496 from by decide, show rg 0 = 0 from rfl, show rg 9218868437227405311 = 9218868437227405311 from rfl, show rg 4503599627370496 = 4503599627370496 from rfl]
  generalize rg x = a at *
  grind

theorem signbit_eq {x : Nat} (h : x < 18446744073709551616) : decide (wrap64 (x : Int) < 0) = ng x := by
  unfold wrap64 ng
  by_cases h' : 9223372036854775808 ≤ x
  · rw [decide_eq_true h', decide_eq_true (by omega)]
  · rw [decide_eq_false h', decide_eq_false (by omega)]

theorem canonRaw_eq {x : Nat} (hx : x < 18446744073709551616) : canonRaw x = if inf64 < rg x then 9221120237041090560 else x := by
  unfold canonRaw; simp only [o64_self hx, ne_eq, Nat.not_le]

/-- what the reference's class and canon come to -/
def ltB (a : Nat) (c : Int) : Bool := decide ((a : Int) < c)
def leB (a : Nat) (c : Int) : Bool := decide ((a : Int) ≤ c)
def geB (a : Nat) (c : Int) : Bool := decide (c ≤ (a : Int))
def eqB (a : Nat) (c : Int) : Bool := ((a : Int) == c)
def topB (a : Nat) : Bool := decide (9223372036854775808 ≤ (a : Int))
def lowB (a : Nat) : Bool := decide ((a : Int) < 9223372036854775808)

theorem refClassRaw_eq (x : Nat) : refClassRaw rg ltB eqB x = clsOf (rg x) := by
  unfold refClassRaw clsOf ltB eqB
  have hi : inf64 = 9218868437227405312 := rfl
  generalize rg x = a
  grind

theorem refCanonRaw_eq (x : Nat) : refCanonRaw (fun x => clsOf (rg x)) x = if inf64 < rg x then 9221120237041090560 else x := by
  unfold refCanonRaw clsOf
  have hi : inf64 = 9218868437227405312 := rfl
  grind

theorem rankRaw_eq {x : Nat} (hx : x < 18446744073709551616) : (rankRaw (fun x => clsOf (rg x)) topB notW topW x : Int) = ordKey x + 9223372036854775808 := by
  unfold rankRaw
  rw [refCanonRaw_eq]
  unfold topB notW topW ordKey
  have hi : inf64 = 9218868437227405312 := rfl
  have hw := word_of hx
  by_cases h : inf64 < rg x
  · simp only [h, if_true]
    rw [show rg 9221120237041090560 = 9221120237041090560 from rfl]
    simp
  · simp only [h, if_false]
    have := rg_lt x
    cases hn : ng x
    · rw [hn] at hw
      simp at hw
      rw [if_neg (by simp; omega)]; simp
    · rw [hn] at hw
      simp at hw
      rw [if_pos (by simp; omega)]
      simp only [if_true]; omega

theorem cmpZ_self (a : Int) : cmpZ a a = 0 := by unfold cmpZ; simp
theorem cmpZ_swap (a b : Int) : cmpZ a b = - cmpZ b a := by unfold cmpZ; grind
theorem ordKey_lt {x y : Nat} (hx : x < 18446744073709551616) (hy : y < 18446744073709551616) (h : o64 x y = some .lt) : cmpZ (ordKey x) (ordKey y) = -1 := by
  rw [o64_lt hx hy] at h
  unfold cmpZ ordKey
  unfold sk at h
  grind
theorem ordKey_gt {x y : Nat} (hx : x < 18446744073709551616) (hy : y < 18446744073709551616) (h : o64 x y = some .gt) : cmpZ (ordKey x) (ordKey y) = 1 := by
  rw [o64_gt hx hy] at h
  unfold cmpZ ordKey
  unfold sk at h
  grind
theorem cmpZ_trans (a b c : Int) : 0 < cmpZ a b ∨ 0 < cmpZ b c ∨ cmpZ a c ≤ 0 := by unfold cmpZ; grind
end Go.Proofs.Ytepgmeinbililaa
