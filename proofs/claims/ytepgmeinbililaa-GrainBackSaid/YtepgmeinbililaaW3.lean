/- More walks: the step, to and from binary32, what is left. -/
import Derived.Test.YtepgmeinbililaaW2
namespace Go.Proofs.Ytepgmeinbililaa
open Go.RowKit

theorem ulp_no (R : Nat → Nat) (eR : ∀ a : Nat, bits .andNot .u64 (a : Int) 9223372036854775808 = (R a : Int)) (x : Nat) (h : (o64 x x != some .eq) = true ∨ ((o64 x x != some .eq) = false ∧ (o64 (R x) 9218868437227405311 == some .gt) = true)) (w : World) :
    Calls Try.prog 31 #[.float .f64 x] w fun e w' => e = .returned (.float .f64 9221120237041090560) ∧ w = w' := by
  go_enter Try.func31, Try.ntmps31
  rcases h with h | ⟨h, h2⟩
  all_goals go_wp2_with (first | (go_at_call 18; refine (abs_core R eR _ _).mono ?_; rintro e w' ⟨rfl, rfl⟩) | (go_at_call 23; refine (isInf0_core R eR _ _).mono ?_; rintro e w' ⟨rfl, rfl⟩) | (go_at_call 42; refine (nan_core _).mono ?_; rintro e w' ⟨rfl, rfl⟩))
  all_goals go_ret
  all_goals go_light
  all_goals exact ⟨rfl, rfl⟩

theorem ulp_max (R : Nat → Nat) (eR : ∀ a : Nat, bits .andNot .u64 (a : Int) 9223372036854775808 = (R a : Int)) (Pv : Nat → Nat) (hPv : ∀ (x : Nat) (w : World), Calls Try.prog 22 #[.float .f64 x] w fun e w' => e = .returned (.float .f64 (Pv x)) ∧ w = w') (x : Nat) (s : Nat) (h : (o64 x x != some .eq) = false) (h2 : (o64 (R x) 9218868437227405311 == some .gt) = false) (h3 : (o64 (R x) 9218868437227405311 == some .eq) = true) (hs : ∀ w : World, (binOp .sub 24 (.float .f64 (R x)) (.float .f64 (Pv (R x)))).run Try.prog w = .ok (.float .f64 s) w) (w : World) :
    Calls Try.prog 31 #[.float .f64 x] w fun e w' => e = .returned (.float .f64 s) ∧ w = w' := by
  go_enter Try.func31, Try.ntmps31
  go_wp2_with (first | (go_at_call 18; refine (abs_core R eR _ _).mono ?_; rintro e w' ⟨rfl, rfl⟩) | (go_at_call 23; refine (isInf0_core R eR _ _).mono ?_; rintro e w' ⟨rfl, rfl⟩) | (go_at_call 42; refine (nan_core _).mono ?_; rintro e w' ⟨rfl, rfl⟩) | (go_at_call 22; refine (hPv _ _).mono ?_; rintro e w' ⟨rfl, rfl⟩))
  all_goals go_ret
  all_goals go_light
  all_goals exact ⟨rfl, rfl⟩

theorem ulp_fin (R : Nat → Nat) (eR : ∀ a : Nat, bits .andNot .u64 (a : Int) 9223372036854775808 = (R a : Int)) (Nx : Nat → Nat) (hNx : ∀ (x : Nat) (w : World), Calls Try.prog 21 #[.float .f64 x] w fun e w' => e = .returned (.float .f64 (Nx x)) ∧ w = w') (x : Nat) (s : Nat) (h : (o64 x x != some .eq) = false) (h2 : (o64 (R x) 9218868437227405311 == some .gt) = false) (h3 : (o64 (R x) 9218868437227405311 == some .eq) = false) (hs : ∀ w : World, (binOp .sub 24 (.float .f64 (Nx (R x))) (.float .f64 (R x))).run Try.prog w = .ok (.float .f64 s) w) (w : World) :
    Calls Try.prog 31 #[.float .f64 x] w fun e w' => e = .returned (.float .f64 s) ∧ w = w' := by
  go_enter Try.func31, Try.ntmps31
  go_wp2_with (first | (go_at_call 18; refine (abs_core R eR _ _).mono ?_; rintro e w' ⟨rfl, rfl⟩) | (go_at_call 23; refine (isInf0_core R eR _ _).mono ?_; rintro e w' ⟨rfl, rfl⟩) | (go_at_call 42; refine (nan_core _).mono ?_; rintro e w' ⟨rfl, rfl⟩) | (go_at_call 21; refine (hNx _ _).mono ?_; rintro e w' ⟨rfl, rfl⟩))
  all_goals go_ret
  all_goals go_light
  all_goals exact ⟨rfl, rfl⟩

theorem refUlp_no (C : Nat → Int) (hC : ∀ (x : Nat) (w : World), Calls Try.prog 16 #[.float .f64 x] w fun e w' => e = .returned (.int .i64 (C x)) ∧ w = w') (x : Nat) (h : 4 ≤ C x) (w : World) :
    Calls Try.prog 32 #[.float .f64 x] w fun e w' => e = .returned (.float .f64 9221120237041090560) ∧ w = w' := by
  have e11 := call11
  go_enter Try.func32, Try.ntmps32
  go_wp2_with (first | (go_at_call 16; refine (hC _ _).mono ?_; rintro e w' ⟨rfl, rfl⟩))
  all_goals go_ret
  all_goals clear e11
  all_goals go_light
  all_goals exact ⟨rfl, rfl⟩

theorem refUlp_max (C : Nat → Int) (hC : ∀ (x : Nat) (w : World), Calls Try.prog 16 #[.float .f64 x] w fun e w' => e = .returned (.int .i64 (C x)) ∧ w = w') (R : Nat → Nat) (eR : ∀ a : Nat, bits .andNot .u64 (a : Int) 9223372036854775808 = (R a : Int)) (E : Nat → Int → Bool) (eE : ∀ (a : Nat) (c : Int), ((a : Int) == c) = E a c) (U : Nat → Nat) (eU : ∀ a : Nat, IntKind.u64.wrap ((a : Int) + 1) = (U a : Int)) (D : Nat → Nat) (eD : ∀ a : Nat, IntKind.u64.wrap ((a : Int) - 1) = (D a : Int)) (x : Nat) (s : Nat) (h : C x < 4) (h3 : E (R x) 9218868437227405311 = true) (hs : ∀ w : World, (binOp .sub 24 (.float .f64 (U (D (R x)))) (.float .f64 (D (R x)))).run Try.prog w = .ok (.float .f64 s) w) (w : World) :
    Calls Try.prog 32 #[.float .f64 x] w fun e w' => e = .returned (.float .f64 s) ∧ w = w' := by
  have e11 := call11
  have e39 := call39
  go_enter Try.func32, Try.ntmps32
  go_wp2_with (first | (go_at_call 16; refine (hC _ _).mono ?_; rintro e w' ⟨rfl, rfl⟩))
  all_goals go_ret
  all_goals clear e11 e39
  all_goals go_light
  all_goals exact ⟨rfl, rfl⟩

theorem refUlp_fin (C : Nat → Int) (hC : ∀ (x : Nat) (w : World), Calls Try.prog 16 #[.float .f64 x] w fun e w' => e = .returned (.int .i64 (C x)) ∧ w = w') (R : Nat → Nat) (eR : ∀ a : Nat, bits .andNot .u64 (a : Int) 9223372036854775808 = (R a : Int)) (E : Nat → Int → Bool) (eE : ∀ (a : Nat) (c : Int), ((a : Int) == c) = E a c) (U : Nat → Nat) (eU : ∀ a : Nat, IntKind.u64.wrap ((a : Int) + 1) = (U a : Int)) (x : Nat) (s : Nat) (h : C x < 4) (h3 : E (R x) 9218868437227405311 = false) (hs : ∀ w : World, (binOp .sub 24 (.float .f64 (U (R x))) (.float .f64 (R x))).run Try.prog w = .ok (.float .f64 s) w) (w : World) :
    Calls Try.prog 32 #[.float .f64 x] w fun e w' => e = .returned (.float .f64 s) ∧ w = w' := by
  have e11 := call11
  have e39 := call39
  go_enter Try.func32, Try.ntmps32
  go_wp2_with (first | (go_at_call 16; refine (hC _ _).mono ?_; rintro e w' ⟨rfl, rfl⟩))
  all_goals go_ret
  all_goals clear e11 e39
  all_goals go_light
  all_goals exact ⟨rfl, rfl⟩

theorem wide_num (y : Nat) (r : Nat) (hc : ∀ w : World, (convert 29 24 (.float .f32 y)).run Try.prog w = .ok (.float .f64 r) w) (w : World) :
    Calls Try.prog 26 #[.float .f32 y] w fun e w' => e = .returned (.float .f64 (canonRaw r)) ∧ w = w' := by
  go_enter Try.func26, Try.ntmps26
  go_wp2_with (first | (go_at_call 37; refine (canon_core _ _).mono ?_; rintro e w' ⟨rfl, rfl⟩))
  all_goals go_ret
  all_goals go_light
  all_goals exact ⟨rfl, rfl⟩

theorem wide_nan (y : Nat) (hc : ∀ w : World, ∃ r, (convert 29 24 (.float .f32 y)).run Try.prog w = .ok (.float .f64 r) w.drew ∧ canonRaw r = 9221120237041090560) (w : World) :
    Calls Try.prog 26 #[.float .f32 y] w fun e w' => e = .returned (.float .f64 9221120237041090560) ∧ w.drew = w' := by
  obtain ⟨r, hr, hn⟩ := hc w
  rw [← hn]
  clear hn
  go_enter Try.func26, Try.ntmps26
  go_wp2_with (first | (go_at_call 37; refine (canon_core _ _).mono ?_; rintro e w' ⟨rfl, rfl⟩))
  go_ret
  exact ⟨rfl, rfl⟩

end Go.Proofs.Ytepgmeinbililaa
