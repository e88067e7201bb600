/- Contracts: neighbours, the step, what is fit, the one NaN. -/
import Derived.Test.YtepgmeinbililaaC1
namespace Go.Proofs.Ytepgmeinbililaa
open Go.RowKit

def negN (x : Nat) : Nat := Op.negFloat .f64 x
theorem neg_run (b : Nat) (w : World) : (Op.unary .neg (.float .f64 b)).run Try.prog w = .ok (.float .f64 (negN b)) w := rfl
def clsN (x : Nat) : Int := clsOf (rg x)
theorem canon_any (x : Nat) (w : World) : Calls Try.prog 37 #[.float .f64 x] w fun e w' => e = .returned (.float .f64 (canonRaw x)) ∧ w = w' := canon_core x w
theorem refCanon_any (x : Nat) (w : World) : Calls Try.prog 38 #[.float .f64 x] w fun e w' => e = .returned (.float .f64 (refCanonRaw clsN x)) ∧ w = w' := refCanon_core clsN refClass_any x w
def prevN (x : Nat) : Nat := canonRaw (negN (nextN (negN x)))
theorem prev_any (x : Nat) (w : World) : Calls Try.prog 22 #[.float .f64 x] w fun e w' => e = .returned (.float .f64 (prevN x)) ∧ w = w' :=
  prev_core upW wrap_up downW wrap_down negN neg_run x w
def refNextN (x : Nat) : Nat := refNextRaw clsN rg eqB lowB upW downW x
def refPrevN (x : Nat) : Nat := refPrevRaw clsN rg eqB lowB upW downW x
theorem refNext_any (x : Nat) (w : World) : Calls Try.prog 29 #[.float .f64 x] w fun e w' => e = .returned (.float .f64 (refNextN x)) ∧ w = w' :=
  refNext_core clsN refClass_any rg andNot_top eqB (fun _ _ => rfl) lowB (fun _ => rfl) upW wrap_up downW wrap_down x w
theorem refPrev_any (x : Nat) (w : World) : Calls Try.prog 30 #[.float .f64 x] w fun e w' => e = .returned (.float .f64 (refPrevN x)) ∧ w = w' :=
  refPrev_core clsN refClass_any rg andNot_top eqB (fun _ _ => rfl) lowB (fun _ => rfl) upW wrap_up downW wrap_down x w
theorem fit_any (x : Nat) (w : World) : Calls Try.prog 35 #[.float .f64 x] w fun e w' => e = .returned (.bool (fitRaw rg x)) ∧ w = w' := fit_core rg andNot_top x w
theorem refFit_any (x : Nat) (w : World) : Calls Try.prog 36 #[.float .f64 x] w fun e w' => e = .returned (.bool (refFitRaw rg geB leB eqB x)) ∧ w = w' :=
  refFit_core rg andNot_top geB (fun _ _ => rfl) leB (fun _ _ => rfl) eqB (fun _ _ => rfl) x w
theorem isInf1_any (x : Nat) (w : World) : Calls Try.prog 23 #[.float .f64 x, .int .i64 1] w fun e w' => e = .returned (.bool (o64 x 9218868437227405311 == some .gt)) ∧ w = w' := isInf1_core x w
theorem isInfm_any (x : Nat) (w : World) : Calls Try.prog 23 #[.float .f64 x, .int .i64 (-1)] w fun e w' => e = .returned (.bool (o64 (negN x) 9218868437227405311 == some .gt)) ∧ w = w' := isInfm_core negN neg_run x w

/-! the words -/
theorem sk_lt_inf {x : Nat} (hx : x < 18446744073709551616) : o64 x 9218868437227405311 = some .gt ↔ x = inf64 := by
  rw [o64_gt hx (by omega), show sk 9218868437227405311 = 9218868437227405311 from by decide, show rg 9218868437227405311 = 9218868437227405311 from rfl]
  have hw := word_of hx
  have hi : inf64 = 9218868437227405312 := rfl
  unfold sk
  cases hn : ng x <;> rw [hn] at hw <;> simp at hw ⊢ <;> constructor <;> intro h
  · omega
  · subst h; decide
  · omega
  · rw [h] at hn; exact absurd hn (by decide)

theorem nextN_eq {x : Nat} (hx : x < 18446744073709551616) : nextN x = if inf64 < rg x then 9221120237041090560 else if x = inf64 then x else if rg x = 0 then 1 else if ng x then x - 1 else x + 1 := by
  unfold nextN nextRaw
  simp only [o64_self hx, sk_lt_inf hx, o64_eq hx (show 0 < 18446744073709551616 from by omega), o64_gt hx (show 0 < 18446744073709551616 from by omega), ne_eq, Nat.not_le]
  rw [show sk 0 = 0 from by decide, show rg 0 = 0 from rfl]
  have hw := word_of hx
  have hi : inf64 = 9218868437227405312 := rfl
  have h1 := rg_lt x
  unfold sk upW downW
  cases hn : ng x <;> rw [hn] at hw <;> simp only [Bool.false_eq_true, if_false, if_true] at hw ⊢ <;> grind

theorem refNextN_eq {x : Nat} (hx : x < 18446744073709551616) : refNextN x = nextN x := by
  rw [nextN_eq hx]
  unfold refNextN refNextRaw
  rw [show refCanonRaw clsN x = _ from refCanonRaw_eq x]
  unfold clsN clsOf eqB lowB upW downW
  have hw := word_of hx
  have hi : inf64 = 9218868437227405312 := rfl
  have h1 := rg_lt x
  cases hn : ng x <;> rw [hn] at hw <;> simp only [Bool.false_eq_true, if_false, if_true] at hw ⊢ <;> grind

theorem nextN_lt {x : Nat} (hx : x < 18446744073709551616) : nextN x < 18446744073709551616 := by
  rw [nextN_eq hx]
  have hw := word_of hx
  have hi : inf64 = 9218868437227405312 := rfl
  have h1 := rg_lt x
  cases hn : ng x <;> rw [hn] at hw <;> simp only [Bool.false_eq_true, if_false, if_true] at hw ⊢ <;> grind

theorem prevN_eq {x : Nat} (hx : x < 18446744073709551616) : prevN x = if inf64 < rg x then 9221120237041090560 else if x = inf64 + 9223372036854775808 then x else if rg x = 0 then 9223372036854775809 else if ng x then x + 1 else x - 1 := by
  unfold prevN
  have hm := negW_lt hx
  rw [show negN x = negW x from negFloat_eq hx]
  have hn2 := nextN_lt hm
  rw [show negN (nextN (negW x)) = negW (nextN (negW x)) from negFloat_eq hn2, canonRaw_eq (negW_lt hn2), rg_negW, nextN_eq hm, rg_negW, ng_negW hx]
  have hw := word_of hx
  have hi : inf64 = 9218868437227405312 := rfl
  have h1 := rg_lt x
  by_cases c1 : inf64 < rg x
  · rw [if_pos c1, if_pos c1, if_pos (by decide)]
  rw [if_neg c1, if_neg c1]
  by_cases c3 : rg x = 0
  · have e1 : ¬ negW x = inf64 := by
      intro e; have := @rg_negW x; rw [e, c3] at this; exact absurd this (by decide)
    have e2 : ¬ x = inf64 + 9223372036854775808 := by
      intro e; rw [e] at c3; exact absurd c3 (by decide)
    rw [if_neg e1, if_pos c3, if_neg e2, if_pos c3]; decide
  rw [if_neg c3, if_neg c3]
  cases hn : ng x
  · rw [hn] at hw
    simp only [Bool.false_eq_true, if_false, Nat.add_zero] at hw
    have hm' : negW x = x + 9223372036854775808 := by unfold negW; rw [if_pos (by omega)]
    rw [hm', if_neg (show ¬ x + 9223372036854775808 = inf64 from by omega), if_neg (show ¬ x = inf64 + 9223372036854775808 from by omega)]
    simp only [Bool.not_false, if_true, Bool.false_eq_true, if_false]
    have e3 : rg (x + 9223372036854775808 - 1) = x - 1 := by unfold rg; omega
    have e4 : negW (x + 9223372036854775808 - 1) = x - 1 := by unfold negW; rw [if_neg (by omega)]; omega
    rw [e3, e4, if_neg (by omega)]
  · rw [hn] at hw
    simp only [if_true] at hw
    have hm' : negW x = x - 9223372036854775808 := by unfold negW; rw [if_neg (by omega)]
    rw [hm']
    simp only [Bool.not_true, if_true, Bool.false_eq_true, if_false]
    by_cases c2 : x = inf64 + 9223372036854775808
    · rw [if_pos (show x - 9223372036854775808 = inf64 from by omega), if_pos c2]
      have e3 : rg (x - 9223372036854775808) = rg x := by unfold rg; omega
      have e4 : negW (x - 9223372036854775808) = x := by unfold negW; rw [if_pos (by omega)]; omega
      rw [e3, e4, if_neg c1]
    · rw [if_neg (show ¬ x - 9223372036854775808 = inf64 from by omega), if_neg c2]
      have e3 : rg (x - 9223372036854775808 + 1) = rg x + 1 := by unfold rg at *; omega
      have e4 : negW (x - 9223372036854775808 + 1) = x + 1 := by unfold negW; rw [if_pos (by omega)]; omega
      rw [e3, e4, if_neg (by omega)]

theorem refPrevN_eq {x : Nat} (hx : x < 18446744073709551616) : refPrevN x = prevN x := by
  rw [prevN_eq hx]
  unfold refPrevN refPrevRaw
  rw [show refCanonRaw clsN x = _ from refCanonRaw_eq x]
  unfold clsN clsOf eqB lowB upW downW
  have hw := word_of hx
  have hi : inf64 = 9218868437227405312 := rfl
  have h1 := rg_lt x
  cases hn : ng x <;> rw [hn] at hw <;> simp only [Bool.false_eq_true, if_false, if_true] at hw ⊢ <;> grind
end Go.Proofs.Ytepgmeinbililaa
