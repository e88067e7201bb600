/- The walk of GrainBack: it returns true for every input. -/
import Derived.Test.YtepgmeinbililaaC3
namespace Go.Proofs.Ytepgmeinbililaa
open Go.RowKit

theorem rest_core (z y : Nat) (c : Int) (h15 : ∀ (w : World), Calls Try.prog 15 #[.float .f64 z] w fun e w' => e = .returned (.float .f32 y) ∧ w = w')
    (hr : ∀ w : World, (convert 29 24 (.float .f32 y)).run Try.prog w = .ok (.float .f64 z) w)
    (h33 : ∀ (w : World), Calls Try.prog 33 #[.float .f64 z] w fun e w' => e = .returned (.int .i64 c) ∧ w = w')
    (h : (o64 z z == some .eq) = true) (w : World) :
    Calls Try.prog 27 #[.float .f64 z] w fun e w' => e = .returned (.float .f64 0) ∧ w = w' := by
  by_cases hc : 4 ≤ c
  all_goals
    go_enter Try.func27, Try.ntmps27
    go_wp2_with (first | (go_at_call 15; refine (h15 _).mono ?_; rintro e w' ⟨rfl, rfl⟩) | (go_at_call 33; refine (h33 _).mono ?_; rintro e w' ⟨rfl, rfl⟩))
  all_goals go_ret
  all_goals exact ⟨rfl, rfl⟩

theorem back_nan (V : World → World) (x y n : Nat) (t0 : (o32 x x != some .eq) = true)
    (h26 : ∀ (w : World), Calls Try.prog 26 #[.float .f32 x] w fun e w' => e = .returned (.float .f64 n) ∧ V w = w')
    (h15 : ∀ (w : World), Calls Try.prog 15 #[.float .f64 n] w fun e w' => e = .returned (.float .f32 2143289344) ∧ w = w') (w : World) :
    Calls Try.prog 7 #[.int .u32 x, .int .u32 y] w fun e w' => e = .returned (.bool true) ∧ V w = w' := by
  have e14 := call14
  have e20 := call20
  go_enter Try.func7, Try.ntmps7
  go_wp2_with (first | (go_at_call 10; refine (awake_any _).mono ?_; rintro e w' ⟨rfl, rfl⟩) | (go_at_call 26; refine (h26 _).mono ?_; rintro e w' ⟨rfl, rfl⟩) | (go_at_call 15; refine (h15 _).mono ?_; rintro e w' ⟨rfl, rfl⟩))
  all_goals go_ret
  all_goals exact ⟨rfl, rfl⟩

theorem back_num (x y z u : Nat) (t0 : (o32 x x != some .eq) = false)
    (h26 : ∀ (w : World), Calls Try.prog 26 #[.float .f32 x] w fun e w' => e = .returned (.float .f64 z) ∧ w = w')
    (h15 : ∀ (w : World), Calls Try.prog 15 #[.float .f64 z] w fun e w' => e = .returned (.float .f32 x) ∧ w = w')
    (h27 : ∀ (w : World), Calls Try.prog 27 #[.float .f64 z] w fun e w' => e = .returned (.float .f64 0) ∧ w = w')
    (e0 : (FloatKind.f64.format.order 0 0 != some .eq) = false)
    (t1 : (o32 y y != some .eq) = true ∨ (o32 y y != some .eq) = false ∧ (∀ (w : World), Calls Try.prog 26 #[.float .f32 y] w fun e w' => e = .returned (.float .f64 u) ∧ w = w') ∧ ((o32 x y == some .lt) == (o64 z u == some .lt)) = true) (w : World) :
    Calls Try.prog 7 #[.int .u32 x, .int .u32 y] w fun e w' => e = .returned (.bool true) ∧ w = w' := by
  have e14 := call14
  have e20 := call20
  rcases t1 with t1 | ⟨t1, h26', t2⟩
  · go_enter Try.func7, Try.ntmps7
    go_wp2_with (first | (go_at_call 10; refine (awake_any _).mono ?_; rintro e w' ⟨rfl, rfl⟩) | (go_at_call 26; refine (h26 _).mono ?_; rintro e w' ⟨rfl, rfl⟩) | (go_at_call 15; refine (h15 _).mono ?_; rintro e w' ⟨rfl, rfl⟩) | (go_at_call 27; refine (h27 _).mono ?_; rintro e w' ⟨rfl, rfl⟩))
    all_goals go_ret
    all_goals exact ⟨rfl, rfl⟩
  · go_enter Try.func7, Try.ntmps7
    go_wp2_with (first | (go_at_call 10; refine (awake_any _).mono ?_; rintro e w' ⟨rfl, rfl⟩) | (go_at_call 26; ((with_reducible refine (h26 _).mono ?_); rintro e w' ⟨rfl, rfl⟩)) | (go_at_call 26; ((with_reducible refine (h26' _).mono ?_); rintro e w' ⟨rfl, rfl⟩)) | (go_at_call 15; refine (h15 _).mono ?_; rintro e w' ⟨rfl, rfl⟩) | (go_at_call 27; refine (h27 _).mono ?_; rintro e w' ⟨rfl, rfl⟩))
    all_goals go_ret
    all_goals exact ⟨rfl, rfl⟩

theorem back_walk (x y : Nat) (hx : x < 4294967296) (hy : y < 4294967296) (w : World) :
    Calls Try.prog 7 #[.int .u32 x, .int .u32 y] w fun e w' => e = .returned (.bool true) ∧ Grown w w' := by
  by_cases hn : rg32 x ≤ inf32
  · obtain ⟨g1, g2⟩ := wideW_num hn
    have ge : o64 (wideW x) (wideW x) = some .eq := (o64_self g1).2 (by omega)
    have h15 := narrow_num (wideW x) x (by rw [ge]; rfl) (back_run hx hn)
    refine (back_num x y (wideW x) (wideW y) (by rw [(o32_self hx).2 hn]; rfl) (wide_any hx hn) h15
      (rest_core (wideW x) x _ h15 (conv_run hx hn) (class_any _) (by rw [ge]; rfl)) (by decide +kernel) ?_ w).mono ?_
    · by_cases hm : rg32 y ≤ inf32
      · right
        exact ⟨by rw [(o32_self hy).2 hm]; rfl, wide_any hy hm, by rw [wide_lt_iff hx hy hn hm]; simp⟩
      · left
        rw [o32_nan1 y (by omega)]; rfl
    · rintro e w' ⟨rfl, rfl⟩
      exact ⟨rfl, Grown.refl _⟩
  · refine (back_nan World.drew x y _ ?_ (wide_no (by omega)) (narrow_nan _ ?_) w).mono ?_
    · rw [o32_nan1 x (by omega)]; rfl
    · decide +kernel
    · rintro e w' ⟨rfl, rfl⟩
      exact ⟨rfl, (Grown.refl _).drew⟩
end Go.Proofs.Ytepgmeinbililaa
