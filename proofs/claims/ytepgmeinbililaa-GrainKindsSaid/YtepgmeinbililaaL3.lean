/- The walk of GrainKinds: it returns true for every input. -/
import Derived.Test.YtepgmeinbililaaC3
namespace Go.Proofs.Ytepgmeinbililaa
open Go.RowKit

theorem kinds_core (V : World → World) (Ca Cb : Nat → Int) (h33 : ∀ (x : Nat) (w : World), Calls Try.prog 33 #[.float .f64 x] w fun e w' => e = .returned (.int .i64 (Ca x)) ∧ w = w')
    (h16 : ∀ (x : Nat) (w : World), Calls Try.prog 16 #[.float .f64 x] w fun e w' => e = .returned (.int .i64 (Cb x)) ∧ w = w')
    (x y c c' : Nat) (k k' : Int) (f f' : Bool) (h34 : ∀ (w : World), Calls Try.prog 34 #[.float .f32 y] w fun e w' => e = .returned (.int .i64 k) ∧ V w = w')
    (h17 : ∀ (w : World), Calls Try.prog 17 #[.float .f32 y] w fun e w' => e = .returned (.int .i64 k') ∧ w = w')
    (h35 : ∀ (w : World), Calls Try.prog 35 #[.float .f64 x] w fun e w' => e = .returned (.bool f) ∧ w = w')
    (h36 : ∀ (w : World), Calls Try.prog 36 #[.float .f64 x] w fun e w' => e = .returned (.bool f') ∧ w = w')
    (h37 : ∀ (w : World), Calls Try.prog 37 #[.float .f64 x] w fun e w' => e = .returned (.float .f64 c) ∧ w = w')
    (h38 : ∀ (w : World), Calls Try.prog 38 #[.float .f64 x] w fun e w' => e = .returned (.float .f64 c') ∧ w = w')
    (t1 : (Ca x == Cb x) = true) (t2 : (k == k') = true) (t3 : (f == f') = true) (t4 : ((c : Int) == (c' : Int)) = true) (w : World) :
    Calls Try.prog 9 #[.int .u64 x, .int .u32 y] w fun e w' => e = .returned (.bool true) ∧ V w = w' := by
  have e11 := call11
  have e14 := call14
  go_enter Try.func9, Try.ntmps9
  go_wp2_with (first | (go_at_call 10; refine (awake_any _).mono ?_; rintro e w' ⟨rfl, rfl⟩) | (go_at_call 33; refine (h33 _ _).mono ?_; rintro e w' ⟨rfl, rfl⟩) | (go_at_call 16; refine (h16 _ _).mono ?_; rintro e w' ⟨rfl, rfl⟩) | (go_at_call 34; refine (h34 _).mono ?_; rintro e w' ⟨rfl, rfl⟩) | (go_at_call 17; refine (h17 _).mono ?_; rintro e w' ⟨rfl, rfl⟩) | (go_at_call 35; refine (h35 _).mono ?_; rintro e w' ⟨rfl, rfl⟩) | (go_at_call 36; refine (h36 _).mono ?_; rintro e w' ⟨rfl, rfl⟩) | (go_at_call 37; refine (h37 _).mono ?_; rintro e w' ⟨rfl, rfl⟩) | (go_at_call 38; refine (h38 _).mono ?_; rintro e w' ⟨rfl, rfl⟩) | (go_at_call 25; refine (same_any _ _ _).mono ?_; rintro e w' ⟨rfl, rfl⟩))
  all_goals go_ret
  all_goals exact ⟨rfl, rfl⟩

theorem kinds_walk (x y : Nat) (hx : x < 18446744073709551616) (hy : y < 4294967296) (w : World) :
    Calls Try.prog 9 #[.int .u64 x, .int .u32 y] w fun e w' => e = .returned (.bool true) ∧ Grown w w' := by
  obtain ⟨V, hV, h34⟩ := class32_any hy
  have h17 := refClass32_any y
  rw [refClass32Raw_eq] at h17
  refine (kinds_core V (classRaw rg) clsN class_any refClass_any x y _ _ _ _ _ _ h34 h17 (fit_any x) (refFit_any x) (canon_any x) (refCanon_any x) ?_ ?_ ?_ ?_ w).mono ?_
  · rw [classRaw_eq hx]; unfold clsN; simp
  · simp
  · rw [fit_eq hx]; simp
  · rw [canonRaw_eq hx, show refCanonRaw clsN x = _ from refCanonRaw_eq x]; simp
  · rintro e w' ⟨rfl, rfl⟩
    exact ⟨rfl, hV w⟩
end Go.Proofs.Ytepgmeinbililaa
