/- The walk of GrainOrders: it returns true for every input. -/
import Derived.Test.YtepgmeinbililaaC1
namespace Go.Proofs.Ytepgmeinbililaa
open Go.RowKit

set_option maxHeartbeats 4000000 in
/-- the law's walk, over the two orders' answers as plain functions -/
theorem orders_core (O O' : Nat → Nat → Int) (hO : ∀ (x y : Nat) (w : World), Calls Try.prog 12 #[.float .f64 x, .float .f64 y] w fun e w' => e = .returned (.int .i64 (O x y)) ∧ w = w')
    (hO' : ∀ (x y : Nat) (w : World), Calls Try.prog 13 #[.float .f64 x, .float .f64 y] w fun e w' => e = .returned (.int .i64 (O' x y)) ∧ w = w')
    (x y z : Nat) (b1 : -1 ≤ O y x) (b2 : O y x ≤ 1) (h1 : (O x y != O' x y) = false) (h3 : (O x y != -O y x) = false) (h5 : (O x x != 0) = false)
    (hl : (o64 x y == some .lt) = true ∧ (o64 x y == some .gt) = false ∧ (O x y != -1) = false ∨ (o64 x y == some .lt) = false ∧ (o64 x y == some .gt) = true ∧ (O x y != 1) = false ∨ (o64 x y == some .lt) = false ∧ (o64 x y == some .gt) = false)
    (ht : 0 < O x y ∨ O x y ≤ 0 ∧ 0 < O y z ∨ O x y ≤ 0 ∧ O y z ≤ 0 ∧ O x z ≤ 0) (w : World) :
    Calls Try.prog 3 #[.int .u64 x, .int .u64 y, .int .u64 z] w fun e w' => e = .returned (.bool true) ∧ w = w' := by
  have e11 := call11
  rcases hl with ⟨l1, l2, l3⟩ | ⟨l1, l2, l3⟩ | ⟨l1, l2⟩ <;> rcases ht with t1 | ⟨t1, t2⟩ | ⟨t1, t2, t3⟩
  all_goals
    go_enter Try.func3, Try.ntmps3
    go_wp2_with (first | (go_at_call 10; refine (awake_any _).mono ?_; rintro e w' ⟨rfl, rfl⟩) | (go_at_call 12; refine (hO _ _ _).mono ?_; rintro e w' ⟨rfl, rfl⟩) | (go_at_call 13; refine (hO' _ _ _).mono ?_; rintro e w' ⟨rfl, rfl⟩))
  all_goals go_ret
  all_goals exact ⟨rfl, rfl⟩

theorem orders_walk (x y z : Nat) (hx : x < 18446744073709551616) (hy : y < 18446744073709551616) (hz : z < 18446744073709551616) (w : World) :
    Calls Try.prog 3 #[.int .u64 x, .int .u64 y, .int .u64 z] w fun e w' => e = .returned (.bool true) ∧ w = w' := by
  have sg : ∀ u v : Nat, u < 18446744073709551616 → v < 18446744073709551616 → orderRaw sgB u v = cmpZ (ordKey u) (ordKey v) := by
    intro u v hu hv
    rw [← orderRaw_eq hu hv]; unfold orderRaw sgB; rw [signbit_eq hu, signbit_eq hv]
  have rk : refOrderRaw rankN x y = cmpZ (ordKey x) (ordKey y) := by
    have r1 := rankRaw_eq hx
    have r2 := rankRaw_eq hy
    unfold refOrderRaw cmpZ rankN
    grind
  refine orders_core (orderRaw sgB) (refOrderRaw rankN) order_any refOrder_any x y z ?_ ?_ ?_ ?_ ?_ ?_ ?_ w
  · rw [sg y x hy hx]; unfold cmpZ; grind
  · rw [sg y x hy hx]; unfold cmpZ; grind
  · rw [sg x y hx hy, rk]; simp
  · rw [sg x y hx hy, sg y x hy hx, cmpZ_swap]; simp
  · rw [sg x x hx hx, cmpZ_self]; rfl
  · rw [sg x y hx hy]
    by_cases h : o64 x y = some .lt
    · left; rw [ordKey_lt hx hy h, h]; decide
    · right
      by_cases h' : o64 x y = some .gt
      · left; rw [ordKey_gt hx hy h', h']; decide
      · right; simp [h, h']
  · rw [sg x y hx hy, sg y z hy hz, sg x z hx hz]
    have := cmpZ_trans (ordKey x) (ordKey y) (ordKey z)
    omega
end Go.Proofs.Ytepgmeinbililaa
