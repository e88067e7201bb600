/- More walks of grain's functions and of the reference's. -/
import Derived.Test.YtepgmeinbililaaW1
namespace Go.Proofs.Ytepgmeinbililaa
open Go.RowKit

def refCanonRaw (C : Nat → Int) (x : Nat) : Nat := if C x = 5 then 9221120237041090560 else x

theorem refCanon_core (C : Nat → Int) (hC : ∀ (x : Nat) (w : World), Calls Try.prog 16 #[.float .f64 x] w fun e w' => e = .returned (.int .i64 (C x)) ∧ w = w') (x : Nat) (w : World) :
    Calls Try.prog 38 #[.float .f64 x] w fun e w' => e = .returned (.float .f64 (refCanonRaw C x)) ∧ w = w' := by
  have e11 := call11
  go_enter Try.func38, Try.ntmps38
  go_wp2_with (first | (go_at_call 16; refine (hC _ _).mono ?_; rintro e w' ⟨rfl, rfl⟩))
  all_goals go_ret
  all_goals clear e11
  all_goals go_light
  all_goals refine ⟨ret_f ?_, rfl⟩
  all_goals simp_all [refCanonRaw]

def rankRaw (C : Nat → Int) (Kt : Nat → Bool) (Xo T : Nat → Nat) (x : Nat) : Nat := if Kt (refCanonRaw C x) = true then Xo (refCanonRaw C x) else T (refCanonRaw C x)

theorem rank_core (C : Nat → Int) (hC : ∀ (x : Nat) (w : World), Calls Try.prog 16 #[.float .f64 x] w fun e w' => e = .returned (.int .i64 (C x)) ∧ w = w') (Kt : Nat → Bool) (eKt : ∀ (a : Nat), decide (9223372036854775808 ≤ (a : Int)) = Kt a) (Xo : Nat → Nat) (eXo : ∀ (a : Nat), bits .xor .u64 IntKind.u64.max (a : Int) = (Xo a : Int)) (T : Nat → Nat) (eT : ∀ (a : Nat), bits .or .u64 (a : Int) 9223372036854775808 = (T a : Int)) (x : Nat) (w : World) :
    Calls Try.prog 41 #[.float .f64 x] w fun e w' => e = .returned (.int .u64 (rankRaw C Kt Xo T x)) ∧ w = w' := by
  have e39 := call39
  go_enter Try.func41, Try.ntmps41
  go_wp2_with (first | (go_at_call 38; refine (refCanon_core C hC _ _).mono ?_; rintro e w' ⟨rfl, rfl⟩))
  all_goals go_ret
  all_goals clear e39
  all_goals go_light
  all_goals refine ⟨ret_i ?_, rfl⟩
  all_goals simp_all [rankRaw]

def refOrderRaw (K : Nat → Nat) (x y : Nat) : Int := if K x < K y then -1 else if K y < K x then 1 else 0

theorem refOrder_core (K : Nat → Nat) (hK : ∀ (x : Nat) (w : World), Calls Try.prog 41 #[.float .f64 x] w fun e w' => e = .returned (.int .u64 (K x : Int)) ∧ w = w') (x y : Nat) (w : World) :
    Calls Try.prog 13 #[.float .f64 x, .float .f64 y] w fun e w' => e = .returned (.int .i64 (refOrderRaw K x y)) ∧ w = w' := by
  go_enter Try.func13, Try.ntmps13
  go_wp2_with (first | (go_at_call 41; refine (hK _ _).mono ?_; rintro e w' ⟨rfl, rfl⟩))
  all_goals go_ret
  all_goals go_light
  all_goals refine ⟨ret_i ?_, rfl⟩
  all_goals unfold refOrderRaw
  all_goals grind

def refNextRaw (C : Nat → Int) (R : Nat → Nat) (E : Nat → Int → Bool) (Lt : Nat → Bool) (U D : Nat → Nat) (x : Nat) : Nat :=
  if C x = 5 then refCanonRaw C x
  else if E x 9218868437227405312 = true then x
  else if E (R x) 0 = true then 1
  else if Lt x = true then U x
  else D x
def refPrevRaw (C : Nat → Int) (R : Nat → Nat) (E : Nat → Int → Bool) (Lt : Nat → Bool) (U D : Nat → Nat) (x : Nat) : Nat :=
  if C x = 5 then refCanonRaw C x
  else if E x 18442240474082181120 = true then x
  else if E (R x) 0 = true then 9223372036854775809
  else if Lt x = true then D x
  else U x

set_option maxHeartbeats 400000 in
theorem refNext_core (C : Nat → Int) (hC : ∀ (x : Nat) (w : World), Calls Try.prog 16 #[.float .f64 x] w fun e w' => e = .returned (.int .i64 (C x)) ∧ w = w') (R : Nat → Nat) (eR : ∀ a : Nat, bits .andNot .u64 (a : Int) 9223372036854775808 = (R a : Int)) (E : Nat → Int → Bool) (eE : ∀ (a : Nat) (c : Int), ((a : Int) == c) = E a c) (Lt : Nat → Bool) (eLt : ∀ (a : Nat), decide ((a : Int) < 9223372036854775808) = Lt a) (U : Nat → Nat) (eU : ∀ a : Nat, IntKind.u64.wrap ((a : Int) + 1) = (U a : Int)) (D : Nat → Nat) (eD : ∀ a : Nat, IntKind.u64.wrap ((a : Int) - 1) = (D a : Int)) (x : Nat) (w : World) :
    Calls Try.prog 29 #[.float .f64 x] w fun e w' => e = .returned (.float .f64 (refNextRaw C R E Lt U D x)) ∧ w = w' := by
  have e11 := call11
  have e39 := call39
  go_enter Try.func29, Try.ntmps29
  go_wp2_with (first | (go_at_call 16; refine (hC _ _).mono ?_; rintro e w' ⟨rfl, rfl⟩) | (go_at_call 38; refine (refCanon_core C hC _ _).mono ?_; rintro e w' ⟨rfl, rfl⟩))
  all_goals go_ret
  all_goals clear e11 e39
  all_goals go_light
  all_goals refine ⟨ret_f ?_, rfl⟩
  all_goals simp_all [refNextRaw]

set_option maxHeartbeats 400000 in
theorem refPrev_core (C : Nat → Int) (hC : ∀ (x : Nat) (w : World), Calls Try.prog 16 #[.float .f64 x] w fun e w' => e = .returned (.int .i64 (C x)) ∧ w = w') (R : Nat → Nat) (eR : ∀ a : Nat, bits .andNot .u64 (a : Int) 9223372036854775808 = (R a : Int)) (E : Nat → Int → Bool) (eE : ∀ (a : Nat) (c : Int), ((a : Int) == c) = E a c) (Lt : Nat → Bool) (eLt : ∀ (a : Nat), decide ((a : Int) < 9223372036854775808) = Lt a) (U : Nat → Nat) (eU : ∀ a : Nat, IntKind.u64.wrap ((a : Int) + 1) = (U a : Int)) (D : Nat → Nat) (eD : ∀ a : Nat, IntKind.u64.wrap ((a : Int) - 1) = (D a : Int)) (x : Nat) (w : World) :
    Calls Try.prog 30 #[.float .f64 x] w fun e w' => e = .returned (.float .f64 (refPrevRaw C R E Lt U D x)) ∧ w = w' := by
  have e11 := call11
  have e39 := call39
  go_enter Try.func30, Try.ntmps30
  go_wp2_with (first | (go_at_call 16; refine (hC _ _).mono ?_; rintro e w' ⟨rfl, rfl⟩) | (go_at_call 38; refine (refCanon_core C hC _ _).mono ?_; rintro e w' ⟨rfl, rfl⟩))
  all_goals go_ret
  all_goals clear e11 e39
  all_goals go_light
  all_goals refine ⟨ret_f ?_, rfl⟩
  all_goals simp_all [refPrevRaw]

end Go.Proofs.Ytepgmeinbililaa
