/- The walk of GrainNeighbours: it returns true for every input. -/
import Derived.Test.YtepgmeinbililaaC2
import Derived.Test.YtepgmeinbililaaFlB
namespace Go.Proofs.Ytepgmeinbililaa
open Go.RowKit

theorem neighbours_core (A B P Q : Nat → Nat) (hA : ∀ (x : Nat) (w : World), Calls Try.prog 21 #[.float .f64 x] w fun e w' => e = .returned (.float .f64 (A x)) ∧ w = w')
    (hB : ∀ (x : Nat) (w : World), Calls Try.prog 29 #[.float .f64 x] w fun e w' => e = .returned (.float .f64 (B x)) ∧ w = w')
    (hP : ∀ (x : Nat) (w : World), Calls Try.prog 22 #[.float .f64 x] w fun e w' => e = .returned (.float .f64 (P x)) ∧ w = w')
    (hQ : ∀ (x : Nat) (w : World), Calls Try.prog 30 #[.float .f64 x] w fun e w' => e = .returned (.float .f64 (Q x)) ∧ w = w')
    (x u : Nat) (hU : ∀ (w : World), Calls Try.prog 31 #[.float .f64 x] w fun e w' => e = .returned (.float .f64 u) ∧ w = w')
    (hV : ∀ (w : World), Calls Try.prog 32 #[.float .f64 x] w fun e w' => e = .returned (.float .f64 u) ∧ w = w')
    (t1 : ((A x : Int) == (B x : Int)) = true) (t2 : ((P x : Int) == (Q x : Int)) = true) (w : World) :
    Calls Try.prog 8 #[.int .u64 x] w fun e w' => e = .returned (.bool true) ∧ w = w' := by
  have e11 := call11
  go_enter Try.func8, Try.ntmps8
  go_wp2_with (first | (go_at_call 10; refine (awake_any _).mono ?_; rintro e w' ⟨rfl, rfl⟩) | (go_at_call 21; refine (hA _ _).mono ?_; rintro e w' ⟨rfl, rfl⟩) | (go_at_call 29; refine (hB _ _).mono ?_; rintro e w' ⟨rfl, rfl⟩) | (go_at_call 22; refine (hP _ _).mono ?_; rintro e w' ⟨rfl, rfl⟩) | (go_at_call 30; refine (hQ _ _).mono ?_; rintro e w' ⟨rfl, rfl⟩) | (go_at_call 31; refine (hU _).mono ?_; rintro e w' ⟨rfl, rfl⟩) | (go_at_call 32; refine (hV _).mono ?_; rintro e w' ⟨rfl, rfl⟩) | (go_at_call 25; refine (same_any _ _ _).mono ?_; rintro e w' ⟨rfl, rfl⟩))
  all_goals go_ret
  all_goals exact ⟨rfl, rfl⟩

/-- a difference of finite words is a word -/
theorem sub_fin {a b : Nat} (ha : rg a < inf64) (hb : rg b < inf64) : ∃ r, floatBits .sub .f64 a b = some r := by
  obtain ⟨m, k, h1, _⟩ := Ieee.double.read_fin (w := a) (by rw [rung_d, infRung_d]; exact ha)
  obtain ⟨n, j, h2, _⟩ := Ieee.double.read_fin (w := b) (by rw [rung_d, infRung_d]; exact hb)
  have e : floatBits .sub .f64 a b = ((Ieee.double.read a).sum (Ieee.double.read b).opposite).map Ieee.double.write := rfl
  rw [e, h1, h2]
  exact ⟨_, rfl⟩

theorem sub_run {a b : Nat} (ha : rg a < inf64) (hb : rg b < inf64) : ∃ r, ∀ w : World, (binOp .sub 24 (.float .f64 a) (.float .f64 b)).run Try.prog w = .ok (.float .f64 r) w := by
  obtain ⟨r, hr⟩ := sub_fin ha hb
  exact ⟨r, fun w => run_float_arith w .sub 24 .f64 a b r hr⟩

theorem ulp_both {x : Nat} (hx : x < 18446744073709551616) : ∃ u, (∀ (w : World), Calls Try.prog 31 #[.float .f64 x] w fun e w' => e = .returned (.float .f64 u) ∧ w = w') ∧
    (∀ (w : World), Calls Try.prog 32 #[.float .f64 x] w fun e w' => e = .returned (.float .f64 u) ∧ w = w') := by
  have hi : inf64 = 9218868437227405312 := rfl
  have hr := rg_lt x
  have hrw : rg x < 18446744073709551616 := by omega
  have hmax : (9218868437227405311 : Nat) < 18446744073709551616 := by omega
  have s0 : sk 9218868437227405311 = 9218868437227405311 := by decide
  have r0 : rg 9218868437227405311 = 9218868437227405311 := rfl
  have eU : upW (rg x) = rg x + 1 := by unfold upW; omega
  by_cases h1 : rg x < inf64
  · have t1 : (o64 x x != some .eq) = false := by rw [(o64_self hx).2 (by omega)]; rfl
    have t2 : (o64 (rg x) 9218868437227405311 == some .gt) = false := by
      rw [beq_eq_false_iff_ne]; intro h; rw [o64_gt hrw hmax, s0, sk_rg] at h; omega
    have tc : clsN x < 4 := by unfold clsN clsOf; grind
    by_cases h2 : rg x = 9218868437227405311
    · have t3 : (o64 (rg x) 9218868437227405311 == some .eq) = true := by rw [h2]; decide +kernel
      obtain ⟨u, hu⟩ := @sub_run 9218868437227405311 9218868437227405310 (by decide) (by decide)
      refine ⟨u, ulp_max rg andNot_top prevN prev_any x u t1 t2 t3 ?_, refUlp_max clsN refClass_any rg andNot_top eqB (fun _ _ => rfl) upW wrap_up downW wrap_down x u tc ?_ ?_⟩
      · rw [h2, show prevN 9218868437227405311 = 9218868437227405310 from by decide +kernel]; exact hu
      · rw [h2]; decide
      · rw [h2, show downW 9218868437227405311 = 9218868437227405310 from by decide, show upW 9218868437227405310 = 9218868437227405311 from by decide]; exact hu
    · have t3 : (o64 (rg x) 9218868437227405311 == some .eq) = false := by
        rw [beq_eq_false_iff_ne]; intro h; rw [o64_eq hrw hmax, s0, sk_rg] at h; omega
      have hn : nextN (rg x) = rg x + 1 := by
        rw [nextN_eq hrw, rg_rg, ng_rg]
        grind
      obtain ⟨u, hu⟩ := @sub_run (rg x + 1) (rg x) (by rw [rg_of_lt (by omega)]; omega) (by rw [rg_rg]; exact h1)
      refine ⟨u, ulp_fin rg andNot_top nextN next_any x u t1 t2 t3 ?_, refUlp_fin clsN refClass_any rg andNot_top eqB (fun _ _ => rfl) upW wrap_up x u tc ?_ ?_⟩
      · rw [hn]; exact hu
      · unfold eqB; simp; omega
      · rw [eU]; exact hu
  · have tc : 4 ≤ clsN x := by unfold clsN clsOf; grind
    refine ⟨9221120237041090560, ulp_no rg andNot_top x ?_, refUlp_no clsN refClass_any x tc⟩
    by_cases h3 : rg x = inf64
    · right
      rw [(o64_self hx).2 (by omega)]
      refine ⟨rfl, ?_⟩
      rw [h3]; decide +kernel
    · left
      rw [o64_nan1 x (by omega)]; rfl

theorem neighbours_walk (x : Nat) (hx : x < 18446744073709551616) (w : World) :
    Calls Try.prog 8 #[.int .u64 x] w fun e w' => e = .returned (.bool true) ∧ w = w' := by
  obtain ⟨u, h1, h2⟩ := ulp_both hx
  exact neighbours_core nextN refNextN prevN refPrevN next_any refNext_any prev_any refPrev_any x u h1 h2 (by rw [refNextN_eq hx]; simp) (by rw [refPrevN_eq hx]; simp) w
end Go.Proofs.Ytepgmeinbililaa
