/- The walk of GrainBetween: it returns true for every input. -/
import Derived.Test.YtepgmeinbililaaC2
namespace Go.Proofs.Ytepgmeinbililaa
open Go.RowKit

theorem between_nan (A P : Nat → Nat) (hA : ∀ (x : Nat) (w : World), Calls Try.prog 21 #[.float .f64 x] w fun e w' => e = .returned (.float .f64 (A x)) ∧ w = w')
    (hP : ∀ (x : Nat) (w : World), Calls Try.prog 22 #[.float .f64 x] w fun e w' => e = .returned (.float .f64 (P x)) ∧ w = w')
    (x y : Nat) (t0 : (o64 x x != some .eq) = true) (t1 : (o64 (A x) (A x) != some .eq) = true) (t2 : (o64 (P x) (P x) != some .eq) = true) (w : World) :
    Calls Try.prog 5 #[.int .u64 x, .int .u64 y] w fun e w' => e = .returned (.bool true) ∧ w = w' := by
  have e11 := call11
  go_enter Try.func5, Try.ntmps5
  go_wp2_with (first | (go_at_call 10; refine (awake_any _).mono ?_; rintro e w' ⟨rfl, rfl⟩) | (go_at_call 21; refine (hA _ _).mono ?_; rintro e w' ⟨rfl, rfl⟩) | (go_at_call 22; refine (hP _ _).mono ?_; rintro e w' ⟨rfl, rfl⟩))
  all_goals go_ret
  all_goals exact ⟨rfl, rfl⟩

set_option maxHeartbeats 4000000 in
theorem between_num (A P : Nat → Nat) (hA : ∀ (x : Nat) (w : World), Calls Try.prog 21 #[.float .f64 x] w fun e w' => e = .returned (.float .f64 (A x)) ∧ w = w')
    (hP : ∀ (x : Nat) (w : World), Calls Try.prog 22 #[.float .f64 x] w fun e w' => e = .returned (.float .f64 (P x)) ∧ w = w')
    (x y : Nat) (i1 i2 : Bool) (h1 : ∀ (w : World), Calls Try.prog 23 #[.float .f64 x, .int .i64 1] w fun e w' => e = .returned (.bool i1) ∧ w = w')
    (h2 : ∀ (w : World), Calls Try.prog 23 #[.float .f64 x, .int .i64 (-1)] w fun e w' => e = .returned (.bool i2) ∧ w = w')
    (t0 : (o64 x x != some .eq) = false)
    (t1 : (o64 x y == some .lt) = false ∨ (o64 x y == some .lt) = true ∧ (o64 y (A x) == some .lt) = false)
    (t2 : (o64 (P x) y == some .lt) = false ∨ (o64 (P x) y == some .lt) = true ∧ (o64 y x == some .lt) = false)
    (t3 : i1 = true ∧ i2 = false ∧ (o64 (P x) x == some .lt) = true ∧ (o64 (A (P x)) x == some .eq) = true ∨
      i1 = false ∧ i2 = true ∧ (o64 (A x) x == some .gt) = true ∧ (o64 (P (A x)) x == some .eq) = true ∨
      i1 = false ∧ i2 = false ∧ (o64 (P x) x == some .lt) = true ∧ (o64 (A (P x)) x == some .eq) = true ∧ (o64 (A x) x == some .gt) = true ∧ (o64 (P (A x)) x == some .eq) = true) (w : World) :
    Calls Try.prog 5 #[.int .u64 x, .int .u64 y] w fun e w' => e = .returned (.bool true) ∧ w = w' := by
  have e11 := call11
  rcases t1 with t1 | ⟨t1, t1'⟩ <;> rcases t2 with t2 | ⟨t2, t2'⟩ <;> rcases t3 with ⟨rfl, rfl, t3, t4⟩ | ⟨rfl, rfl, t3, t4⟩ | ⟨rfl, rfl, t3, t4, t5, t6⟩
  all_goals
    go_enter Try.func5, Try.ntmps5
    go_wp2_with (first | (go_at_call 10; refine (awake_any _).mono ?_; rintro e w' ⟨rfl, rfl⟩) | (go_at_call 21; refine (hA _ _).mono ?_; rintro e w' ⟨rfl, rfl⟩) | (go_at_call 22; refine (hP _ _).mono ?_; rintro e w' ⟨rfl, rfl⟩) | (go_at_call 23; ((with_reducible refine (h1 _).mono ?_); rintro e w' ⟨rfl, rfl⟩)) | (go_at_call 23; ((with_reducible refine (h2 _).mono ?_); rintro e w' ⟨rfl, rfl⟩)))
  all_goals go_ret
  all_goals exact ⟨rfl, rfl⟩

theorem next_sk {x : Nat} (hx : x < 18446744073709551616) (hn : ¬ inf64 < rg x) (h : x ≠ inf64) : sk (nextN x) = sk x + 1 ∧ rg (nextN x) ≤ inf64 := by
  have hi : inf64 = 9218868437227405312 := rfl
  have hr := rg_lt x
  have hw := word_of hx
  rw [nextN_eq hx, if_neg hn, if_neg h]
  by_cases c : rg x = 0
  · rw [if_pos c]
    have : sk x = 0 := by unfold sk; rw [c]; simp
    rw [this]; decide
  · rw [if_neg c]
    cases hg : ng x
    · rw [hg] at hw
      simp only [Bool.false_eq_true, if_false, Nat.add_zero] at hw ⊢
      have e1 : rg (x + 1) = rg x + 1 := by unfold rg at *; omega
      have e2 : ng (x + 1) = false := by unfold ng; rw [decide_eq_false (by omega)]
      unfold sk; rw [e1, e2, hg]
      simp only [Bool.false_eq_true, if_false]
      omega
    · rw [hg] at hw
      simp only [if_true] at hw ⊢
      have e1 : rg (x - 1) = rg x - 1 := by unfold rg at *; omega
      have e2 : ng (x - 1) = true := by unfold ng; rw [decide_eq_true (by omega)]
      unfold sk; rw [e1, e2, hg]
      simp only [if_true]
      omega

theorem prev_sk {x : Nat} (hx : x < 18446744073709551616) (hn : ¬ inf64 < rg x) (h : x ≠ inf64 + 9223372036854775808) : sk (prevN x) = sk x - 1 ∧ rg (prevN x) ≤ inf64 ∧ prevN x < 18446744073709551616 := by
  have hi : inf64 = 9218868437227405312 := rfl
  have hr := rg_lt x
  have hw := word_of hx
  rw [prevN_eq hx, if_neg hn, if_neg h]
  by_cases c : rg x = 0
  · rw [if_pos c]
    have : sk x = 0 := by unfold sk; rw [c]; simp
    rw [this]; decide
  · rw [if_neg c]
    cases hg : ng x
    · rw [hg] at hw
      simp only [Bool.false_eq_true, if_false, Nat.add_zero] at hw ⊢
      have e1 : rg (x - 1) = rg x - 1 := by unfold rg at *; omega
      have e2 : ng (x - 1) = false := by unfold ng; rw [decide_eq_false (by omega)]
      unfold sk; rw [e1, e2, hg]
      simp only [Bool.false_eq_true, if_false]
      omega
    · rw [hg] at hw
      simp only [if_true] at hw ⊢
      have e1 : rg (x + 1) = rg x + 1 := by unfold rg at *; omega
      have e2 : ng (x + 1) = true := by unfold ng; rw [decide_eq_true (by omega)]
      unfold sk; rw [e1, e2, hg]
      simp only [if_true]
      omega

theorem sk_range (x : Nat) (hn : ¬ inf64 < rg x) : -(inf64 : Int) ≤ sk x ∧ sk x ≤ (inf64 : Int) := by
  unfold sk; split <;> omega
theorem sk_inf {x : Nat} (hx : x < 18446744073709551616) : sk x = inf64 ↔ x = inf64 := by
  have hi : inf64 = 9218868437227405312 := rfl
  have hw := word_of hx
  have hr := rg_lt x
  constructor
  · intro h
    unfold sk at h
    cases hg : ng x <;> rw [hg] at hw h <;> simp only [Bool.false_eq_true, if_false, if_true] at hw h <;> omega
  · rintro rfl; decide
theorem sk_ninf {x : Nat} (hx : x < 18446744073709551616) : sk x = -(inf64 : Int) ↔ x = inf64 + 9223372036854775808 := by
  have hi : inf64 = 9218868437227405312 := rfl
  have hw := word_of hx
  have hr := rg_lt x
  constructor
  · intro h
    unfold sk at h
    cases hg : ng x <;> rw [hg] at hw h <;> simp only [Bool.false_eq_true, if_false, if_true] at hw h <;> omega
  · rintro rfl; decide

theorem isInfm_iff {x : Nat} (hx : x < 18446744073709551616) : o64 (negN x) 9218868437227405311 = some .gt ↔ x = inf64 + 9223372036854775808 := by
  have hi : inf64 = 9218868437227405312 := rfl
  rw [show negN x = negW x from negFloat_eq hx, sk_lt_inf (negW_lt hx)]
  unfold negW
  split <;> omega

theorem between_walk (x y : Nat) (hx : x < 18446744073709551616) (hy : y < 18446744073709551616) (w : World) :
    Calls Try.prog 5 #[.int .u64 x, .int .u64 y] w fun e w' => e = .returned (.bool true) ∧ w = w' := by
  have hi : inf64 = 9218868437227405312 := rfl
  by_cases hn : inf64 < rg x
  · have e1 : nextN x = 9221120237041090560 := by rw [nextN_eq hx, if_pos hn]
    have e2 : prevN x = 9221120237041090560 := by rw [prevN_eq hx, if_pos hn]
    refine between_nan nextN prevN next_any prev_any x y ?_ ?_ ?_ w
    · rw [o64_nan1 x hn]; rfl
    · rw [e1]; decide +kernel
    · rw [e2]; decide +kernel
  · have hx' : rg x ≤ inf64 := by omega
    have ln := nextN_lt hx
    have rx := sk_range x hn
    have N1 := fun h => next_sk hx hn h
    have P1 := fun h => prev_sk hx hn h
    have n1 : x = inf64 → nextN x = x := fun h => by rw [nextN_eq hx, if_neg hn, if_pos h]
    have p1 : x = inf64 + 9223372036854775808 → prevN x = x := fun h => by rw [prevN_eq hx, if_neg hn, if_pos h]
    have lp : prevN x < 18446744073709551616 ∧ rg (prevN x) ≤ inf64 := by
      by_cases h : x = inf64 + 9223372036854775808
      · rw [p1 h]; exact ⟨hx, hx'⟩
      · exact ⟨(P1 h).2.2, (P1 h).2.1⟩
    have rn : rg (nextN x) ≤ inf64 := by
      by_cases h : x = inf64
      · rw [n1 h]; exact hx'
      · exact (N1 h).2
    have bt : ∀ {b : Bool}, (¬ b = true) → b = false := fun h => by simpa using h
    refine between_num nextN prevN next_any prev_any x y _ _ (isInf1_any x) (isInfm_any x) ?_ ?_ ?_ ?_ w
    · rw [(o64_self hx).2 hx']; rfl
    · by_cases h : o64 x y = some .lt
      · right
        refine ⟨by rw [h]; rfl, ?_⟩
        have h' := (o64_lt hx hy).1 h
        have ry := sk_range y (by omega)
        have hne : x ≠ inf64 := fun e => by have := (sk_inf hx).2 e; omega
        rw [beq_eq_false_iff_ne]; intro hh
        rw [o64_lt hy ln, (N1 hne).1] at hh; omega
      · left; rw [beq_eq_false_iff_ne]; exact h
    · by_cases h : o64 (prevN x) y = some .lt
      · right
        refine ⟨by rw [h]; rfl, ?_⟩
        have h' := (o64_lt lp.1 hy).1 h
        rw [beq_eq_false_iff_ne]; intro hh
        rw [o64_lt hy hx] at hh
        by_cases he : x = inf64 + 9223372036854775808
        · rw [p1 he] at h'; omega
        · rw [(P1 he).1] at h'; omega
      · left; rw [beq_eq_false_iff_ne]; exact h
    · have c1 := @sk_lt_inf x hx
      have c2 := @isInfm_iff x hx
      have g1 : x ≠ inf64 → o64 (nextN x) x = some .gt ∧ o64 (prevN (nextN x)) x = some .eq := by
        intro h
        have h1 := N1 h
        have hm : nextN x ≠ inf64 + 9223372036854775808 := fun e => by have := (sk_ninf ln).2 e; omega
        have h2 := prev_sk ln (by omega) hm
        refine ⟨(o64_gt ln hx).2 ⟨rn, hx', by omega⟩, (o64_eq h2.2.2 hx).2 ⟨h2.2.1, hx', by omega⟩⟩
      have g2 : x ≠ inf64 + 9223372036854775808 → o64 (prevN x) x = some .lt ∧ o64 (nextN (prevN x)) x = some .eq := by
        intro h
        have h1 := P1 h
        have hm : prevN x ≠ inf64 := fun e => by have := (sk_inf lp.1).2 e; omega
        have h2 := next_sk lp.1 (by omega) hm
        refine ⟨(o64_lt lp.1 hx).2 ⟨lp.2, hx', by omega⟩, (o64_eq (nextN_lt lp.1) hx).2 ⟨h2.2, hx', by omega⟩⟩
      by_cases h1 : x = inf64
      · left
        have h2 : x ≠ inf64 + 9223372036854775808 := by omega
        have h3 := g2 h2
        refine ⟨by rw [c1.2 h1]; rfl, by rw [beq_eq_false_iff_ne, ne_eq, c2]; exact h2, by rw [h3.1]; rfl, by rw [h3.2]; rfl⟩
      · right
        have h3 := g1 h1
        by_cases h2 : x = inf64 + 9223372036854775808
        · left
          refine ⟨by rw [beq_eq_false_iff_ne, ne_eq, c1]; exact h1, by rw [c2.2 h2]; rfl, by rw [h3.1]; rfl, by rw [h3.2]; rfl⟩
        · right
          have h4 := g2 h2
          refine ⟨by rw [beq_eq_false_iff_ne, ne_eq, c1]; exact h1, by rw [beq_eq_false_iff_ne, ne_eq, c2]; exact h2, by rw [h4.1]; rfl, by rw [h4.2]; rfl, by rw [h3.1]; rfl, by rw [h3.2]; rfl⟩
end Go.Proofs.Ytepgmeinbililaa
