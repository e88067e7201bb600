/- Walks: the nearest whole number, the program's and the reference's. Conditions: finite numbers up to 2^51. -/
import Derived.Test.YtjapohjfheielaaA2
namespace Go.Proofs.Ytjapohjfheielaa
open Go.RowKit
open Ieee (FinW V dR big double wordOf deepD)
theorem U_lit (n c : Nat) (h : n ≤ c) : n * 2 ^ deepD ≤ c * 2 ^ deepD := Nat.mul_le_mul_right _ h
attribute [local irreducible] Ieee.V Ieee.Format.rnd fv Ieee.big Ieee.deepD flW sqW iw hU

/-- what stands behind round: a sum, its floor, its whole number -/
theorem half_up {z : Int} (hz0 : 0 ≤ z) (hz : z.natAbs ≤ 2251799813685248 * 2 ^ deepD) : (dR (z + hU)).natAbs ≤ 4503599627370497 * 2 ^ deepD ∧ (dR (z + hU) / 2 ^ deepD).natAbs < 4503599627370498 := by
  have h1 := (round_facts hz0 hz).2
  refine ⟨h1, ?_⟩
  have h4 : 0 ≤ dR (z + hU) := by
    have h3 := hU_pos
    have := dR_mono (a := 0) (b := z + hU) (by omega)
    rwa [dR_zero] at this
  have hp := U_pos
  rw [← Ieee.pow_cast] at hp ⊢
  generalize dR (z + hU) = d at *
  generalize 2 ^ deepD = U at *
  have h5 : 0 ≤ d / (U : Int) := Int.ediv_nonneg h4 (by omega)
  have h6 : d / (U : Int) < 4503599627370498 := by
    rw [Int.ediv_lt_iff_lt_mul hp]; omega
  omega
theorem up_parts {x : Nat} (hx : FinW x) (h0 : 0 ≤ V x) (h : (V x).natAbs ≤ 2251799813685247 * 2 ^ deepD) :
    FOk .add x halfW ∧ FinW (fv .add x halfW) ∧ floatToIntVal .f64 (flW (fv .add x halfW)) .i64 = some (rN (V x)) ∧ 0 ≤ rN (V x) ∧ (rN (V x)).natAbs < 4503599627370498 := by
  obtain ⟨f1, f2⟩ := round_facts h0 (Nat.le_trans h (U_lit _ _ (by omega)))
  obtain ⟨a1, a2, a3⟩ := w_add hx fin_half (by rw [hU_eq]; exact f1)
  have a4 : V (fv .add x halfW) = dR (V x + hU) := by rw [a3, hU_eq]
  have hr : rN (V x) = dR (V x + hU) / 2 ^ deepD := by unfold rN; rw [if_neg (by omega)]
  obtain ⟨g1, g2⟩ := half_up h0 (Nat.le_trans h (U_lit _ _ (by omega)))
  have b4 : (V (fv .add x halfW)).natAbs ≤ 4503599627370496 * 2 ^ deepD := by
    rw [a4]
    have h3 := hU_two
    have h5 : V x + hU ≤ 4503599627370496 * 2 ^ deepD := by
      rw [← Ieee.pow_cast] at h3 ⊢
      generalize 2 ^ deepD = U at *
      omega
    have h6 := dR_mono h5
    have h7 : dR (4503599627370496 * 2 ^ deepD) = 4503599627370496 * 2 ^ deepD := dR_int (n := 4503599627370496) (by omega)
    rw [h7] at h6
    have h8 : 0 ≤ dR (V x + hU) := by
      have h3 := hU_pos
      have := dR_mono (a := 0) (b := V x + hU) (by omega)
      rwa [dR_zero] at this
    rw [← Ieee.pow_cast] at h6
    generalize 2 ^ deepD = U at *
    omega
  obtain ⟨c1, c2⟩ := w_floor a2 b4
  rw [a4] at c2
  refine ⟨a1, a2, ?_, ?_, by rw [hr]; exact g2⟩
  · rw [hr]; exact w_int c1 c2 (by omega)
  · rw [hr]
    have h8 : 0 ≤ dR (V x + hU) := by
      have h3 := hU_pos
      have := dR_mono (a := 0) (b := V x + hU) (by omega)
      rwa [dR_zero] at this
    exact Int.ediv_nonneg h8 (Int.le_of_lt U_pos)
theorem down_parts {x : Nat} (hx : FinW x) (h0 : V x < 0) (h : (V x).natAbs ≤ 2251799813685247 * 2 ^ deepD) :
    FOk .sub halfW x ∧ FinW (fv .sub halfW x) ∧ floatToIntVal .f64 (flW (fv .sub halfW x)) .i64 = some (rN (-V x)) ∧ 0 ≤ rN (-V x) ∧ (rN (-V x)).natAbs < 4503599627370498 := by
  have h0' : 0 ≤ -V x := by omega
  have h' : (-V x).natAbs ≤ 2251799813685247 * 2 ^ deepD := by rw [Int.natAbs_neg]; exact h
  obtain ⟨f1, f2⟩ := round_facts h0' (Nat.le_trans h' (U_lit _ _ (by omega)))
  have e : -V x + hU = hU - V x := by omega
  obtain ⟨a1, a2, a3⟩ := w_sub fin_half hx (by rw [hU_eq, ← e]; exact f1)
  have a4 : V (fv .sub halfW x) = dR (-V x + hU) := by rw [e, a3, hU_eq]
  have hr : rN (-V x) = dR (-V x + hU) / 2 ^ deepD := by unfold rN; rw [if_neg (by omega)]
  obtain ⟨g1, g2⟩ := half_up h0' (Nat.le_trans h' (U_lit _ _ (by omega)))
  have h8 : 0 ≤ dR (-V x + hU) := by
    have h3 := hU_pos
    have := dR_mono (a := 0) (b := -V x + hU) (by omega)
    rwa [dR_zero] at this
  have b4 : (V (fv .sub halfW x)).natAbs ≤ 4503599627370496 * 2 ^ deepD := by
    rw [a4]
    have h3 := hU_two
    have h5 : -V x + hU ≤ 4503599627370496 * 2 ^ deepD := by
      rw [← Ieee.pow_cast] at h3 ⊢
      generalize 2 ^ deepD = U at *
      omega
    have h6 := dR_mono h5
    have h7 : dR (4503599627370496 * 2 ^ deepD) = 4503599627370496 * 2 ^ deepD := dR_int (n := 4503599627370496) (by omega)
    rw [h7] at h6
    rw [← Ieee.pow_cast] at h6
    generalize 2 ^ deepD = U at *
    omega
  obtain ⟨c1, c2⟩ := w_floor a2 b4
  rw [a4] at c2
  refine ⟨a1, a2, ?_, ?_, by rw [hr]; exact g2⟩
  · rw [hr]; exact w_int c1 c2 (by omega)
  · rw [hr]; exact Int.ediv_nonneg h8 (Int.le_of_lt U_pos)
theorem run_ci {y : Nat} {n : Int} (h : floatToIntVal .f64 y .i64 = some n) (u : World) : (convert 23 2 (.float .f64 y)).run Try.prog u = .ok (.int .i64 n) u :=
  run_convert_float_int u 23 2 .f64 .i64 y n (by kernel_rfl) (by kernel_rfl) h

theorem roundP_any {x : Nat} (hx : FinW x) (h : (V x).natAbs ≤ 2251799813685247 * 2 ^ deepD) (w : World) :
    Calls Try.prog 31 #[.float .f64 x] w fun e w' => e = .returned (.int .i64 (rN (V x))) ∧ w = w' := by
  by_cases h0 : V x < 0
  · have hl : (o64 x 0 == some .lt) = true := by rw [lt_V hx fin_zero, V_zero]; simpa using h0
    obtain ⟨p1, p2, p3, p4, p5⟩ := down_parts hx h0 h
    have hn : rN (V x) = -rN (-V x) := by rw [rN_neg]; omega
    rw [hn]
    have r1 := run_fv p1
    have r2 := fun u => floor_any p2 u
    have r3 := fun u => run_ci p3 u
    obtain ⟨s, hs⟩ : ∃ s, fv .sub halfW x = s := ⟨_, rfl⟩
    obtain ⟨n, hn⟩ : ∃ n, rN (-V x) = n := ⟨_, rfl⟩
    rw [hs] at r1 r2 r3
    rw [hn] at r3 p4 p5 ⊢
    clear p1 p2 p3 hs hn hx h0 h
    unfold halfW at r1
    go_enter Try.func31, Try.ntmps31
    go_wp2_with (first | (go_at_call 35; refine (r2 _).mono ?_; rintro e w' ⟨rfl, rfl⟩))
    go_ret
    exact ⟨rfl, rfl⟩
  · have hl : (o64 x 0 == some .lt) = false := by rw [lt_V hx fin_zero, V_zero]; simpa using h0
    obtain ⟨p1, p2, p3, p4, p5⟩ := up_parts hx (by omega) h
    have r1 := run_fv p1
    have r2 := fun u => floor_any p2 u
    have r3 := fun u => run_ci p3 u
    obtain ⟨s, hs⟩ : ∃ s, fv .add x halfW = s := ⟨_, rfl⟩
    obtain ⟨n, hn⟩ : ∃ n, rN (V x) = n := ⟨_, rfl⟩
    rw [hs] at r1 r2 r3
    rw [hn] at r3 p4 p5 ⊢
    clear p1 p2 p3 hs hn hx h0 h
    unfold halfW at r1
    go_enter Try.func31, Try.ntmps31
    go_wp2_with (first | (go_at_call 35; refine (r2 _).mono ?_; rintro e w' ⟨rfl, rfl⟩))
    go_ret
    exact ⟨rfl, rfl⟩

theorem roundR_any {x : Nat} (hx : FinW x) (h : (V x).natAbs ≤ 2251799813685247 * 2 ^ deepD) (w : World) :
    Calls Try.prog 33 #[.float .f64 x] w fun e w' => e = .returned (.int .i64 (rN (V x))) ∧ w = w' := by
  by_cases h0 : V x < 0
  · have hl : (o64 x 0 == some .lt) = true := by rw [lt_V hx fin_zero, V_zero]; simpa using h0
    obtain ⟨p1, p2, p3, p4, p5⟩ := down_parts hx h0 h
    have hn : rN (V x) = -rN (-V x) := by rw [rN_neg]; omega
    rw [hn]
    have r1 := run_fv p1
    have r2 := fun u => floor_any p2 u
    have r3 := fun u => run_ci p3 u
    obtain ⟨s, hs⟩ : ∃ s, fv .sub halfW x = s := ⟨_, rfl⟩
    obtain ⟨n, hn⟩ : ∃ n, rN (-V x) = n := ⟨_, rfl⟩
    rw [hs] at r1 r2 r3
    rw [hn] at r3 p4 p5 ⊢
    clear p1 p2 p3 hs hn hx h0 h
    unfold halfW at r1
    go_enter Try.func33, Try.ntmps33
    go_wp2_with (first | (go_at_call 35; refine (r2 _).mono ?_; rintro e w' ⟨rfl, rfl⟩))
    go_ret
    exact ⟨rfl, rfl⟩
  · have hl : (o64 x 0 == some .lt) = false := by rw [lt_V hx fin_zero, V_zero]; simpa using h0
    obtain ⟨p1, p2, p3, p4, p5⟩ := up_parts hx (by omega) h
    have r1 := run_fv p1
    have r2 := fun u => floor_any p2 u
    have r3 := fun u => run_ci p3 u
    obtain ⟨s, hs⟩ : ∃ s, fv .add x halfW = s := ⟨_, rfl⟩
    obtain ⟨n, hn⟩ : ∃ n, rN (V x) = n := ⟨_, rfl⟩
    rw [hs] at r1 r2 r3
    rw [hn] at r3 p4 p5 ⊢
    clear p1 p2 p3 hs hn hx h0 h
    unfold halfW at r1
    go_enter Try.func33, Try.ntmps33
    go_wp2_with (first | (go_at_call 35; refine (r2 _).mono ?_; rintro e w' ⟨rfl, rfl⟩))
    go_ret
    exact ⟨rfl, rfl⟩
end Go.Proofs.Ytjapohjfheielaa
