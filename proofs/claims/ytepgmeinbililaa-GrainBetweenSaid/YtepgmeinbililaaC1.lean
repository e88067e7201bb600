/- Contracts of grain's functions and of the reference's, without the words that stood behind variables; that the program is awake. -/
import Derived.Test.YtepgmeinbililaaP1
namespace Go.Proofs.Ytepgmeinbililaa
open Go.RowKit

def sgB (a : Nat) : Bool := decide (wrap64 (a : Int) < 0)

theorem abs_any (x : Nat) (w : World) : Calls Try.prog 18 #[.float .f64 x] w fun e w' => e = .returned (.float .f64 (rg x)) ∧ w = w' := abs_core rg andNot_top x w
theorem order_any (x y : Nat) (w : World) : Calls Try.prog 12 #[.float .f64 x, .float .f64 y] w fun e w' => e = .returned (.int .i64 (orderRaw sgB x y)) ∧ w = w' := order_core sgB (fun _ => rfl) x y w
theorem refClass_any (x : Nat) (w : World) : Calls Try.prog 16 #[.float .f64 x] w fun e w' => e = .returned (.int .i64 (clsOf (rg x))) ∧ w = w' := by
  rw [← refClassRaw_eq]; exact refClass_core rg andNot_top ltB (fun _ _ => rfl) eqB (fun _ _ => rfl) x w
def rankN (x : Nat) : Nat := rankRaw (fun x => clsOf (rg x)) topB notW topW x
theorem rank_any (x : Nat) (w : World) : Calls Try.prog 41 #[.float .f64 x] w fun e w' => e = .returned (.int .u64 (rankN x : Int)) ∧ w = w' :=
  rank_core (fun x => clsOf (rg x)) refClass_any topB (fun _ => rfl) notW xor_all topW or_top x w
theorem refOrder_any (x y : Nat) (w : World) : Calls Try.prog 13 #[.float .f64 x, .float .f64 y] w fun e w' => e = .returned (.int .i64 (refOrderRaw rankN x y)) ∧ w = w' :=
  refOrder_core rankN rank_any x y w
def nextN (x : Nat) : Nat := nextRaw upW downW x
theorem next_any (x : Nat) (w : World) : Calls Try.prog 21 #[.float .f64 x] w fun e w' => e = .returned (.float .f64 (nextN x)) ∧ w = w' :=
  next_core upW wrap_up downW wrap_down x w
theorem class_any (x : Nat) (w : World) : Calls Try.prog 33 #[.float .f64 x] w fun e w' => e = .returned (.int .i64 (classRaw rg x)) ∧ w = w' := class_core rg andNot_top x w

theorem narrow_num (x r : Nat) (hn : (o64 x x != some .eq) = false) (hc : ∀ w : World, (convert 24 29 (.float .f64 x)).run Try.prog w = .ok (.float .f32 r) w) (w : World) :
    Calls Try.prog 15 #[.float .f64 x] w fun e w' => e = .returned (.float .f32 r) ∧ w = w' := by
  have e14 := call14
  go_enter Try.func15, Try.ntmps15
  go_wp2
  go_ret
  exact ⟨rfl, rfl⟩

theorem narrow_nan (x : Nat) (hn : (o64 x x != some .eq) = true) (w : World) :
    Calls Try.prog 15 #[.float .f64 x] w fun e w' => e = .returned (.float .f32 2143289344) ∧ w = w' := by
  have e14 := call14
  go_enter Try.func15, Try.ntmps15
  go_wp2
  go_ret
  exact ⟨rfl, rfl⟩

theorem same_any (x y : Nat) (w : World) : Calls Try.prog 25 #[.float .f64 x, .float .f64 y] w fun e w' => e = .returned (.bool ((x : Int) == (y : Int))) ∧ w = w' := by
  have e39 := call39
  go_enter Try.func25, Try.ntmps25
  go_wp2
  go_ret
  exact ⟨rfl, rfl⟩

theorem tenth (w : World) : Calls Try.prog 15 #[.float .f64 4591870180066957722] w fun e w' => e = .returned (.float .f32 1036831949) ∧ w = w' :=
  narrow_num _ _ (by decide +kernel) (fun w => run_convert_float_float w 24 29 .f64 .f32 _ _ (by kernel_rfl) (by kernel_rfl) (by decide +kernel)) w

theorem awake_any (w : World) : Calls Try.prog 10 #[] w fun e w' => e = .returned (.bool true) ∧ w = w' := by
  have c1 := class_any 4607182418800017408
  rw [show classRaw rg 4607182418800017408 = 3 from by decide +kernel] at c1
  have c2 := next_any 4607182418800017408
  rw [show nextN 4607182418800017408 = 4607182418800017409 from by decide +kernel] at c2
  have c3 := order_any 4607182418800017408 4611686018427387904
  rw [show orderRaw sgB 4607182418800017408 4611686018427387904 = -1 from by decide +kernel] at c3
  have e39 := call39
  have e20 := call20
  go_enter Try.func10, Try.ntmps10
  go_wp2_with (first | (go_at_call 33; refine (c1 _).mono ?_; rintro e w' ⟨rfl, rfl⟩) | (go_at_call 21; refine (c2 _).mono ?_; rintro e w' ⟨rfl, rfl⟩) | (go_at_call 12; refine (c3 _).mono ?_; rintro e w' ⟨rfl, rfl⟩) | (go_at_call 15; refine (tenth _).mono ?_; rintro e w' ⟨rfl, rfl⟩))
  go_ret
  exact ⟨rfl, rfl⟩
end Go.Proofs.Ytepgmeinbililaa
