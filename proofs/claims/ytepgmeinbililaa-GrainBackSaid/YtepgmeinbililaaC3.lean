/- Contracts: from binary32 and back; the classes of binary32. -/
import Derived.Test.YtepgmeinbililaaC2
import Derived.Test.YtepgmeinbililaaP2
namespace Go.Proofs.Ytepgmeinbililaa
open Go.RowKit

theorem conv_run {y : Nat} (hy : y < 4294967296) (h : rg32 y ≤ inf32) (w : World) : (convert 29 24 (.float .f32 y)).run Try.prog w = .ok (.float .f64 (wideW y)) w :=
  run_convert_float_float w 29 24 .f32 .f64 _ _ (by kernel_rfl) (by kernel_rfl) (conv_wide hy h)
theorem back_run {y : Nat} (hy : y < 4294967296) (h : rg32 y ≤ inf32) (w : World) : (convert 24 29 (.float .f64 (wideW y))).run Try.prog w = .ok (.float .f32 y) w :=
  run_convert_float_float w 24 29 .f64 .f32 _ _ (by kernel_rfl) (by kernel_rfl) (conv_back hy h)
theorem wideW_num {y : Nat} (h : rg32 y ≤ inf32) : wideW y < 18446744073709551616 ∧ ¬ inf64 < rg (wideW y) := by
  obtain ⟨h1, h2, _⟩ := wideW_facts h
  exact ⟨h1, by rw [h2]; have := wideR_le h; omega⟩
theorem wide_any {y : Nat} (hy : y < 4294967296) (h : rg32 y ≤ inf32) (w : World) : Calls Try.prog 26 #[.float .f32 y] w fun e w' => e = .returned (.float .f64 (wideW y)) ∧ w = w' := by
  obtain ⟨h1, h2⟩ := wideW_num h
  have := wide_num y (wideW y) (conv_run hy h) w
  rw [canonRaw_eq h1, if_neg h2] at this
  exact this
theorem wide_no {y : Nat} (h : inf32 < rg32 y) (w : World) : Calls Try.prog 26 #[.float .f32 y] w fun e w' => e = .returned (.float .f64 9221120237041090560) ∧ w.drew = w' :=
  wide_nan y (fun w => conv_nan h w) w

theorem c32_off (V : World → World) (y z : Nat) (c : Int) (hz : ∀ w : World, Calls Try.prog 26 #[.float .f32 y] w fun e w' => e = .returned (.float .f64 z) ∧ V w = w')
    (hc : ∀ w : World, Calls Try.prog 33 #[.float .f64 z] w fun e w' => e = .returned (.int .i64 c) ∧ w = w') (h : (c == 3) = false) (w : World) :
    Calls Try.prog 34 #[.float .f32 y] w fun e w' => e = .returned (.int .i64 c) ∧ V w = w' := by
  go_enter Try.func34, Try.ntmps34
  go_wp2_with (first | (go_at_call 26; refine (hz _).mono ?_; rintro e w' ⟨rfl, rfl⟩) | (go_at_call 33; refine (hc _).mono ?_; rintro e w' ⟨rfl, rfl⟩))
  all_goals go_ret
  all_goals exact ⟨rfl, rfl⟩

theorem c32_on (y z a : Nat) (b : Bool) (hz : ∀ w : World, Calls Try.prog 26 #[.float .f32 y] w fun e w' => e = .returned (.float .f64 z) ∧ w = w')
    (hc : ∀ w : World, Calls Try.prog 33 #[.float .f64 z] w fun e w' => e = .returned (.int .i64 3) ∧ w = w')
    (hr : ∀ w : World, (convert 29 24 (.float .f32 y)).run Try.prog w = .ok (.float .f64 z) w)
    (ha : ∀ w : World, Calls Try.prog 18 #[.float .f64 z] w fun e w' => e = .returned (.float .f64 a) ∧ w = w')
    (h : (o64 a 4039728865751334912 == some .lt) = b) (w : World) :
    Calls Try.prog 34 #[.float .f32 y] w fun e w' => e = .returned (.int .i64 (if b = true then 2 else 3)) ∧ w = w' := by
  cases b
  all_goals
    go_enter Try.func34, Try.ntmps34
    go_wp2_with (first | (go_at_call 26; refine (hz _).mono ?_; rintro e w' ⟨rfl, rfl⟩) | (go_at_call 33; refine (hc _).mono ?_; rintro e w' ⟨rfl, rfl⟩) | (go_at_call 18; refine (ha _).mono ?_; rintro e w' ⟨rfl, rfl⟩))
  all_goals go_ret
  all_goals exact ⟨rfl, rfl⟩

theorem refClass32_any (y : Nat) (w : World) : Calls Try.prog 17 #[.float .f32 y] w fun e w' => e = .returned (.int .i64 (refClass32Raw rg32 ltB eqB y)) ∧ w = w' :=
  refClass32_core rg32 andNot_top32 ltB (fun _ _ => rfl) eqB (fun _ _ => rfl) y w

def cls32Of (r : Nat) : Int := if r = 0 then 1 else if r < 8388608 then 2 else if r < inf32 then 3 else if r = inf32 then 4 else 5
theorem refClass32Raw_eq (y : Nat) : refClass32Raw rg32 ltB eqB y = cls32Of (rg32 y) := by
  unfold refClass32Raw cls32Of ltB eqB
  have hi : inf32 = 2139095040 := rfl
  generalize rg32 y = a
  grind

theorem unit_edge : Ieee.double.unit 4039728865751334912 = Ieee.single.unit 8388608 * 2 ^ Ieee.deep := by decide +kernel
theorem unit_one : Ieee.double.unit 4503599627370496 ≤ Ieee.single.unit 1 * 2 ^ Ieee.deep := by decide +kernel

theorem wideR_edge {r : Nat} (h : r < inf32) : Ieee.wideR r < 4039728865751334912 ↔ r < 8388608 := by
  have h' : r < Ieee.single.infRung := by rw [infRung_s]; exact h
  rw [← Ieee.double.unit_lt_iff, Ieee.wideR_unit h', unit_edge, Nat.mul_lt_mul_right (Nat.two_pow_pos _), Ieee.single.unit_lt_iff]
theorem wideR_normal {r : Nat} (h : r < inf32) (h0 : 0 < r) : 4503599627370496 ≤ Ieee.wideR r := by
  have h' : r < Ieee.single.infRung := by rw [infRung_s]; exact h
  rcases Nat.lt_or_ge (Ieee.wideR r) 4503599627370496 with h1 | h1
  · have h2 := Ieee.double.unit_lt h1
    rw [Ieee.wideR_unit h'] at h2
    have h3 : Ieee.single.unit 1 ≤ Ieee.single.unit r := Ieee.single.unit_le h0
    have h4 := Nat.mul_le_mul_right (2 ^ Ieee.deep) h3
    have h5 := unit_one
    omega
  · exact h1

theorem class32_any {y : Nat} (hy : y < 4294967296) : ∃ V : World → World, (∀ w, Grown w (V w)) ∧ ∀ w, Calls Try.prog 34 #[.float .f32 y] w fun e w' => e = .returned (.int .i64 (cls32Of (rg32 y))) ∧ V w = w' := by
  have hi : inf32 = 2139095040 := rfl
  have hi6 : inf64 = 9218868437227405312 := rfl
  by_cases h : rg32 y ≤ inf32
  · obtain ⟨h1, h2, h3⟩ := wideW_facts h
    have hc := class_any (wideW y)
    rw [classRaw_eq h1, h2] at hc
    refine ⟨id, fun w => Grown.refl _, ?_⟩
    by_cases h3 : rg32 y = 0 ∨ rg32 y = inf32
    · have e : clsOf (Ieee.wideR (rg32 y)) = cls32Of (rg32 y) := by
        rcases h3 with h3 | h3 <;> rw [h3] <;> decide +kernel
      rw [e] at hc
      refine c32_off id y _ _ (wide_any hy h) hc ?_
      rcases h3 with h3 | h3 <;> rw [h3] <;> decide
    · have hlt : rg32 y < inf32 := by omega
      have hn := wideR_normal hlt (by omega)
      have hL : Ieee.wideR (rg32 y) < inf64 := by rw [← infRung_d]; exact Ieee.wideR_lt (by rw [infRung_s]; exact hlt)
      have e : clsOf (Ieee.wideR (rg32 y)) = 3 := by unfold clsOf; grind
      rw [e] at hc
      have ha := abs_any (wideW y)
      rw [h2] at ha
      have hR : Ieee.wideR (rg32 y) < 9223372036854775808 := by omega
      have key : (o64 (Ieee.wideR (rg32 y)) 4039728865751334912 == some .lt) = decide (rg32 y < 8388608) := by
        have hsk := sk_of_lt hR
        have hrg := rg_of_lt hR
        have h9 := wideR_edge hlt
        have hh := @o64_lt (Ieee.wideR (rg32 y)) 4039728865751334912 (by omega) (by omega)
        rw [hsk, hrg, show sk 4039728865751334912 = 4039728865751334912 from by decide, show rg 4039728865751334912 = 4039728865751334912 from rfl] at hh
        by_cases h10 : rg32 y < 8388608
        · rw [decide_eq_true h10, beq_iff_eq, hh]; omega
        · rw [decide_eq_false h10, beq_eq_false_iff_ne, ne_eq, hh]; omega
      have := c32_on y _ _ _ (wide_any hy h) hc (conv_run hy h) ha key
      intro w
      refine (this w).mono ?_
      rintro e w' ⟨rfl, rfl⟩
      refine ⟨?_, rfl⟩
      refine ret_i ?_
      unfold cls32Of
      by_cases h10 : rg32 y < 8388608
      · simp [h10]; omega
      · simp [h10]; grind
  · have hc := class_any 9221120237041090560
    rw [show classRaw rg 9221120237041090560 = 5 from by decide +kernel] at hc
    have e : cls32Of (rg32 y) = 5 := by unfold cls32Of; grind
    rw [e]
    exact ⟨World.drew, fun w => (Grown.refl _).drew, c32_off World.drew y _ 5 (wide_no (by omega)) hc (by decide)⟩

theorem fit_eq {x : Nat} (_hx : x < 18446744073709551616) : fitRaw rg x = refFitRaw rg geB leB eqB x := by
  have hr := rg_lt x
  have hrw : rg x < 18446744073709551616 := by omega
  unfold fitRaw refFitRaw geB leB eqB
  have hi : inf64 = 9218868437227405312 := rfl
  have a1 := @o64_eq (rg x) 0 hrw (by omega)
  have a2 := @o64_gt (rg x) 3706462493325918208 hrw (by omega)
  have a3 := @o64_eq (rg x) 3706462493325918208 hrw (by omega)
  have a4 := @o64_lt (rg x) 5507902344274116608 hrw (by omega)
  have a5 := @o64_eq (rg x) 5507902344274116608 hrw (by omega)
  rw [sk_rg, rg_rg] at a1 a2 a3 a4 a5
  rw [show sk 0 = 0 from by decide, show rg 0 = 0 from rfl] at a1
  rw [show sk 3706462493325918208 = 3706462493325918208 from by decide, show rg 3706462493325918208 = 3706462493325918208 from rfl] at a2 a3
  rw [show sk 5507902344274116608 = 5507902344274116608 from by decide, show rg 5507902344274116608 = 5507902344274116608 from rfl] at a4 a5
  generalize rg x = a at *
  rw [Bool.eq_iff_iff]
  simp only [Bool.or_eq_true, Bool.and_eq_true, beq_iff_eq, decide_eq_true_eq]
  rw [a1, a2, a3, a4, a5]
  omega
end Go.Proofs.Ytepgmeinbililaa
