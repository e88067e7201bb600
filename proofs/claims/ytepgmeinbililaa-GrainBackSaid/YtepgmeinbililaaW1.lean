/- Walks of grain's small functions and of the reference's: what they return, said with the tests as the text has them. The bit operations and the comparisons with great constants stand behind variables (R, L, E ..), for the walk. -/
import Derived.Test.YtepgmeinbililaaCalls
import Derived.Deep.Light
namespace Go.Proofs.Ytepgmeinbililaa
open Go.RowKit

abbrev o64 (x y : Nat) : Option Ordering := FloatKind.f64.format.order x y

theorem abs_core (R : Nat → Nat) (eR : ∀ a : Nat, bits .andNot .u64 (a : Int) 9223372036854775808 = (R a : Int)) (x : Nat) (w : World) :
    Calls Try.prog 18 #[.float .f64 x] w fun e w' => e = .returned (.float .f64 (R x)) ∧ w = w' := by
  have e11 := call11
  have e39 := call39
  go_enter Try.func18, Try.ntmps18
  go_wp2
  all_goals go_ret
  all_goals clear e11 e39
  all_goals go_light
  exact ⟨rfl, rfl⟩

theorem isInf0_core (R : Nat → Nat) (eR : ∀ a : Nat, bits .andNot .u64 (a : Int) 9223372036854775808 = (R a : Int)) (x : Nat) (w : World) :
    Calls Try.prog 23 #[.float .f64 x, .int .i64 0] w fun e w' => e = .returned (.bool (o64 (R x) 9218868437227405311 == some .gt)) ∧ w = w' := by
  go_enter Try.func23, Try.ntmps23
  go_wp2_with (first | (go_at_call 18; refine (abs_core R eR _ _).mono ?_; rintro e w' ⟨rfl, rfl⟩))
  all_goals go_ret
  all_goals go_light
  exact ⟨rfl, rfl⟩

theorem isInf1_core (x : Nat) (w : World) :
    Calls Try.prog 23 #[.float .f64 x, .int .i64 1] w fun e w' => e = .returned (.bool (o64 x 9218868437227405311 == some .gt)) ∧ w = w' := by
  go_enter Try.func23, Try.ntmps23
  go_wp2
  all_goals go_ret
  all_goals go_light
  exact ⟨rfl, rfl⟩

theorem isInfm_core (M : Nat → Nat) (eM : ∀ (b : Nat) (w : World), (Op.unary .neg (.float .f64 b)).run Try.prog w = .ok (.float .f64 (M b)) w) (x : Nat) (w : World) :
    Calls Try.prog 23 #[.float .f64 x, .int .i64 (-1)] w fun e w' => e = .returned (.bool (o64 (M x) 9218868437227405311 == some .gt)) ∧ w = w' := by
  go_enter Try.func23, Try.ntmps23
  go_wp2
  all_goals go_ret
  all_goals go_light
  exact ⟨rfl, rfl⟩

theorem nan_core (w : World) : Calls Try.prog 42 #[] w fun e w' => e = .returned (.float .f64 9221120237041090560) ∧ w = w' := by
  have e11 := call11
  go_enter Try.func42, Try.ntmps42
  go_wp2
  go_ret
  exact ⟨rfl, rfl⟩

def nextRaw (U D : Nat → Nat) (x : Nat) : Nat :=
  if o64 x x ≠ some .eq then 9221120237041090560
  else if o64 x 9218868437227405311 = some .gt then x
  else if o64 x 0 = some .eq then 1
  else if o64 x 0 = some .gt then U x
  else D x

theorem next_core (U : Nat → Nat) (eU : ∀ a : Nat, IntKind.u64.wrap ((a : Int) + 1) = (U a : Int)) (D : Nat → Nat) (eD : ∀ a : Nat, IntKind.u64.wrap ((a : Int) - 1) = (D a : Int)) (x : Nat) (w : World) :
    Calls Try.prog 21 #[.float .f64 x] w fun e w' => e = .returned (.float .f64 (nextRaw U D x)) ∧ w = w' := by
  have e11 := call11
  have e39 := call39
  go_enter Try.func21, Try.ntmps21
  go_wp2_with (first | (go_at_call 23; refine (isInf1_core _ _).mono ?_; rintro e w' ⟨rfl, rfl⟩) | (go_at_call 42; refine (nan_core _).mono ?_; rintro e w' ⟨rfl, rfl⟩))
  all_goals go_ret
  all_goals clear e11 e39
  all_goals go_light
  all_goals refine ⟨ret_f ?_, rfl⟩
  all_goals simp_all [nextRaw]

def canonRaw (x : Nat) : Nat := if o64 x x ≠ some .eq then 9221120237041090560 else x

theorem canon_core (x : Nat) (w : World) :
    Calls Try.prog 37 #[.float .f64 x] w fun e w' => e = .returned (.float .f64 (canonRaw x)) ∧ w = w' := by
  go_enter Try.func37, Try.ntmps37
  go_wp2_with (first | (go_at_call 42; refine (nan_core _).mono ?_; rintro e w' ⟨rfl, rfl⟩))
  all_goals go_ret
  all_goals go_light
  all_goals refine ⟨ret_f ?_, rfl⟩
  all_goals simp_all [canonRaw]

theorem prev_core (U : Nat → Nat) (eU : ∀ a : Nat, IntKind.u64.wrap ((a : Int) + 1) = (U a : Int)) (D : Nat → Nat) (eD : ∀ a : Nat, IntKind.u64.wrap ((a : Int) - 1) = (D a : Int)) (M : Nat → Nat) (eM : ∀ (b : Nat) (w : World), (Op.unary .neg (.float .f64 b)).run Try.prog w = .ok (.float .f64 (M b)) w) (x : Nat) (w : World) :
    Calls Try.prog 22 #[.float .f64 x] w fun e w' => e = .returned (.float .f64 (canonRaw (M (nextRaw U D (M x))))) ∧ w = w' := by
  go_enter Try.func22, Try.ntmps22
  go_wp2_with (first | (go_at_call 21; refine (next_core U eU D eD _ _).mono ?_; rintro e w' ⟨rfl, rfl⟩) | (go_at_call 37; refine (canon_core _ _).mono ?_; rintro e w' ⟨rfl, rfl⟩))
  all_goals go_ret
  all_goals go_light
  exact ⟨rfl, rfl⟩

def classRaw (R : Nat → Nat) (x : Nat) : Int :=
  if o64 x x ≠ some .eq then 5
  else if o64 (R x) 0 = some .eq then 1
  else if o64 (R x) 9218868437227405311 = some .gt then 4
  else if o64 (R x) 4503599627370496 = some .lt then 2
  else 3

theorem class_core (R : Nat → Nat) (eR : ∀ a : Nat, bits .andNot .u64 (a : Int) 9223372036854775808 = (R a : Int)) (x : Nat) (w : World) :
    Calls Try.prog 33 #[.float .f64 x] w fun e w' => e = .returned (.int .i64 (classRaw R x)) ∧ w = w' := by
  go_enter Try.func33, Try.ntmps33
  go_wp2_with (first | (go_at_call 18; refine (abs_core R eR _ _).mono ?_; rintro e w' ⟨rfl, rfl⟩) | (go_at_call 23; refine (isInf0_core R eR _ _).mono ?_; rintro e w' ⟨rfl, rfl⟩))
  all_goals go_ret
  all_goals go_light
  all_goals refine ⟨ret_i ?_, rfl⟩
  all_goals simp_all [classRaw]

def refClassRaw (R : Nat → Nat) (L : Nat → Int → Bool) (E : Nat → Int → Bool) (x : Nat) : Int :=
  if E (R x) 0 = true then 1
  else if L (R x) 4503599627370496 = true then 2
  else if L (R x) 9218868437227405312 = true then 3
  else if E (R x) 9218868437227405312 = true then 4
  else 5

theorem refClass_core (R : Nat → Nat) (eR : ∀ a : Nat, bits .andNot .u64 (a : Int) 9223372036854775808 = (R a : Int)) (L : Nat → Int → Bool) (eL : ∀ (a : Nat) (c : Int), decide ((a : Int) < c) = L a c) (E : Nat → Int → Bool) (eE : ∀ (a : Nat) (c : Int), ((a : Int) == c) = E a c) (x : Nat) (w : World) :
    Calls Try.prog 16 #[.float .f64 x] w fun e w' => e = .returned (.int .i64 (refClassRaw R L E x)) ∧ w = w' := by
  have e39 := call39
  go_enter Try.func16, Try.ntmps16
  go_wp2
  all_goals go_ret
  all_goals clear e39
  all_goals go_light
  all_goals refine ⟨ret_i ?_, rfl⟩
  all_goals simp_all [refClassRaw]

def refClass32Raw (R : Nat → Nat) (L : Nat → Int → Bool) (E : Nat → Int → Bool) (y : Nat) : Int :=
  if E (R y) 0 = true then 1
  else if L (R y) 8388608 = true then 2
  else if L (R y) 2139095040 = true then 3
  else if E (R y) 2139095040 = true then 4
  else 5

theorem refClass32_core (R3 : Nat → Nat) (eR3 : ∀ a : Nat, bits .andNot .u32 (a : Int) 2147483648 = (R3 a : Int)) (L : Nat → Int → Bool) (eL : ∀ (a : Nat) (c : Int), decide ((a : Int) < c) = L a c) (E : Nat → Int → Bool) (eE : ∀ (a : Nat) (c : Int), ((a : Int) == c) = E a c) (y : Nat) (w : World) :
    Calls Try.prog 17 #[.float .f32 y] w fun e w' => e = .returned (.int .i64 (refClass32Raw R3 L E y)) ∧ w = w' := by
  have e20 := call20
  go_enter Try.func17, Try.ntmps17
  go_wp2
  all_goals go_ret
  all_goals clear e20
  all_goals go_light
  all_goals refine ⟨ret_i ?_, rfl⟩
  all_goals simp_all [refClass32Raw]

def fitRaw (R : Nat → Nat) (x : Nat) : Bool := (o64 (R x) 0 == some .eq) || ((o64 (R x) 3706462493325918208 == some .gt || o64 (R x) 3706462493325918208 == some .eq) && (o64 (R x) 5507902344274116608 == some .lt || o64 (R x) 5507902344274116608 == some .eq))

theorem fit_core (R : Nat → Nat) (eR : ∀ a : Nat, bits .andNot .u64 (a : Int) 9223372036854775808 = (R a : Int)) (x : Nat) (w : World) :
    Calls Try.prog 35 #[.float .f64 x] w fun e w' => e = .returned (.bool (fitRaw R x)) ∧ w = w' := by
  go_enter Try.func35, Try.ntmps35
  go_wp2_with (first | (go_at_call 18; refine (abs_core R eR _ _).mono ?_; rintro e w' ⟨rfl, rfl⟩))
  all_goals go_ret
  all_goals go_light
  all_goals refine ⟨ret_b ?_, rfl⟩
  all_goals grind [fitRaw]

def refFitRaw (R : Nat → Nat) (K J E : Nat → Int → Bool) (x : Nat) : Bool := E (R x) 0 || (K (R x) 3706462493325918208 && J (R x) 5507902344274116608)

theorem refFit_core (R : Nat → Nat) (eR : ∀ a : Nat, bits .andNot .u64 (a : Int) 9223372036854775808 = (R a : Int)) (K : Nat → Int → Bool) (eK : ∀ (a : Nat) (c : Int), decide (c ≤ (a : Int)) = K a c) (J : Nat → Int → Bool) (eJ : ∀ (a : Nat) (c : Int), decide ((a : Int) ≤ c) = J a c) (E : Nat → Int → Bool) (eE : ∀ (a : Nat) (c : Int), ((a : Int) == c) = E a c) (x : Nat) (w : World) :
    Calls Try.prog 36 #[.float .f64 x] w fun e w' => e = .returned (.bool (refFitRaw R K J E x)) ∧ w = w' := by
  have e39 := call39
  go_enter Try.func36, Try.ntmps36
  go_wp2
  all_goals go_ret
  all_goals clear e39
  all_goals go_light
  all_goals refine ⟨ret_b ?_, rfl⟩
  all_goals simp_all [refFitRaw]

theorem signbit_core (G : Nat → Bool) (eG : ∀ (a : Nat), decide (wrap64 (a : Int) < 0) = G a) (x : Nat) (w : World) :
    Calls Try.prog 40 #[.float .f64 x] w fun e w' => e = .returned (.bool (G x)) ∧ w = w' := by
  have e39 := call39
  go_enter Try.func40, Try.ntmps40
  go_wp2
  all_goals go_ret
  all_goals clear e39
  all_goals go_light
  exact ⟨rfl, rfl⟩

def orderRaw (G : Nat → Bool) (x y : Nat) : Int :=
  if o64 x x ≠ some .eq ∧ o64 y y ≠ some .eq then 0
  else if o64 x x ≠ some .eq then 1
  else if o64 y y ≠ some .eq ∨ o64 x y = some .lt then -1
  else if o64 x y = some .gt then 1
  else if G x = G y then 0
  else if G x = true then -1
  else 1

set_option maxHeartbeats 400000 in
theorem order_core (G : Nat → Bool) (eG : ∀ (a : Nat), decide (wrap64 (a : Int) < 0) = G a) (x y : Nat) (w : World) :
    Calls Try.prog 12 #[.float .f64 x, .float .f64 y] w fun e w' => e = .returned (.int .i64 (orderRaw G x y)) ∧ w = w' := by
  go_enter Try.func12, Try.ntmps12
  go_wp2_with (first | (go_at_call 40; refine (signbit_core G eG _ _).mono ?_; rintro e w' ⟨rfl, rfl⟩))
  all_goals go_ret
  all_goals go_light
  all_goals refine ⟨ret_i ?_, rfl⟩
  all_goals simp_all [orderRaw]

end Go.Proofs.Ytepgmeinbililaa
