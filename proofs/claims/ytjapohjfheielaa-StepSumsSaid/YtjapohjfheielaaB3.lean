/- Walks: what a mass pulls at another, in whole numbers. Conditions: masses on the grid, a fit constant. -/
import Derived.Test.YtjapohjfheielaaB2
namespace Go.Proofs.Ytjapohjfheielaa
open Go.RowKit
open Ieee (FinW V dR big double wordOf deepD)
attribute [local irreducible] Ieee.V Ieee.Format.rnd fv Ieee.big Ieee.deepD flW sqW hU rN longV

theorem clamp_word {x : Nat} (hx : FinW x) : FinW (if o64 x 4751297606875873280 == some .gt then 4751297606875873280 else if o64 x 13974669643730649088 == some .lt then 13974669643730649088 else x) ∧
    V (if o64 x 4751297606875873280 == some .gt then 4751297606875873280 else if o64 x 13974669643730649088 == some .lt then 13974669643730649088 else x) = clampLo (clampHi (V x)) := by
  have e1 := gt_V hx fin_far
  have e2 := lt_V hx fin_nfar
  rw [V_far] at e1
  rw [V_nfar] at e2
  have v1 := V_far
  have v2 := V_nfar
  have i1 := fin_far
  have i2 := fin_nfar
  unfold farW at e1 v1 i1
  unfold nfarW at e2 v2 i2
  rw [e1, e2]
  have hp : (0 : Int) < 2 ^ (32 + deepD) := Int.pow_pos (by omega)
  unfold clampLo clampHi
  generalize (2 : Int) ^ (32 + deepD) = F at *
  by_cases h1 : F < V x
  · simp only [h1, decide_true, if_true]
    rw [if_neg (by omega)]
    exact ⟨i1, v1⟩
  · by_cases h2 : V x < -F
    · simp only [h1, h2, decide_true, decide_false, if_true, if_false, Bool.false_eq_true]
      exact ⟨i2, v2⟩
    · simp only [h1, h2, decide_false, if_false, Bool.false_eq_true]
      exact ⟨hx, trivial⟩

theorem pullP_any (am ax0 ax1 ax2 ap0 ap1 ap2 bm bx0 bx1 bx2 bp0 bp1 bp2 : Int) (g : Nat) (w : World) (hg : FinW g) (g0 : 0 ≤ V g) (g1 : V g ≤ 2 ^ (40 + deepD))
    (ma : 1 ≤ am ∧ am ≤ 1048576) (mb : 1 ≤ bm ∧ bm ≤ 1048576)
    (b0 : -2199023255552 ≤ bx0 - ax0 ∧ bx0 - ax0 ≤ 2199023255552) (b1 : -2199023255552 ≤ bx1 - ax1 ∧ bx1 - ax1 ≤ 2199023255552) (b2 : -2199023255552 ≤ bx2 - ax2 ∧ bx2 - ax2 ≤ 2199023255552) :
    Calls Try.prog 32 #[.agg #[.int .i64 am, .int .i64 ax0, .int .i64 ax1, .int .i64 ax2, .int .i64 ap0, .int .i64 ap1, .int .i64 ap2], .agg #[.int .i64 bm, .int .i64 bx0, .int .i64 bx1, .int .i64 bx2, .int .i64 bp0, .int .i64 bp1, .int .i64 bp2], .float .f64 g] w
      fun e w' => e = .returned (.agg #[.int .i64 (pk g (am * bm) (bx0 - ax0) (bx1 - ax1) (bx2 - ax2) (bx0 - ax0)), .int .i64 (pk g (am * bm) (bx0 - ax0) (bx1 - ax1) (bx2 - ax2) (bx1 - ax1)), .int .i64 (pk g (am * bm) (bx0 - ax0) (bx1 - ax1) (bx2 - ax2) (bx2 - ax2))]) ∧ Below w.heap.size w w' := by
  have d0 : (bx0 - ax0).natAbs ≤ 2 ^ 41 := by rw [show (2 : Nat) ^ 41 = 2199023255552 from by decide]; omega
  have d1 : (bx1 - ax1).natAbs ≤ 2 ^ 41 := by rw [show (2 : Nat) ^ 41 = 2199023255552 from by decide]; omega
  have d2 : (bx2 - ax2).natAbs ≤ 2 ^ 41 := by rw [show (2 : Nat) ^ 41 = 2199023255552 from by decide]; omega
  obtain ⟨q0, q1, q2, a0, a1, a2, hL, hLf, hLv⟩ := long_words d0 d1 d2
  obtain ⟨l1, l2, l3⟩ := long_parts d0 d1 d2
  have hm0 : 0 ≤ am * bm := Int.mul_nonneg (by omega) (by omega)
  have hm1 : am * bm ≤ 1099511627776 := by
    have := Int.mul_le_mul ma.2 mb.2 (by omega) (by omega)
    omega
  obtain ⟨f1, f2, f3, f4, f5, f6⟩ := force_word hg g0 g1 hm0 hm1 hLf hLv l1 l2 l3
  obtain ⟨x0, y0, z0⟩ := pull_word f5 f6 d0
  obtain ⟨x1, y1, z1⟩ := pull_word f5 f6 d1
  obtain ⟨x2, y2, z2⟩ := pull_word f5 f6 d2
  have hw : IntKind.i64.wrap (am * bm) = am * bm := IntWalk.i64_in _ (by omega)
  rw [← hL] at f1 f3
  have c0 := clamp_word y0
  have c1 := clamp_word y1
  have c2 := clamp_word y2
  refine pullP_raw am ax0 ax1 ax2 ap0 ap1 ap2 bm bx0 bx1 bx2 bp0 bp1 bp2 g w _ _ _ _ _ _ _ _ _ _ _ _ _ _ _ _ _ _ _ _ _ _ _ _ _ _ _ _ _ b0.1 b0.2 b1.1 b1.2 b2.1 b2.2 rfl rfl rfl (fun u => run_fv q0 u) (fun u => run_fv q1 u) (fun u => run_fv q2 u) (fun u => run_fv a0 u) (fun u => run_fv a1 u) (fun u => run_fv a2 u) hw (fun u => run_fv f2 u) f1 (fun u => run_fv f3 u) (fun u => run_fv (hL ▸ f4) u) (fun u => run_fv (hL ▸ x0) u) (fun u => run_fv (hL ▸ x1) u) (fun u => run_fv (hL ▸ x2) u) rfl rfl rfl rfl rfl rfl rfl rfl rfl ?_ ?_ ?_
  · intro u
    rw [hL]
    have h := roundP_any c0.1 (by rw [c0.2]; exact Nat.le_trans (clamp_abs _) (U_lit _ _ (by omega))) u
    rw [c0.2, z0] at h
    exact h
  · intro u
    rw [hL]
    have h := roundP_any c1.1 (by rw [c1.2]; exact Nat.le_trans (clamp_abs _) (U_lit _ _ (by omega))) u
    rw [c1.2, z1] at h
    exact h
  · intro u
    rw [hL]
    have h := roundP_any c2.1 (by rw [c2.2]; exact Nat.le_trans (clamp_abs _) (U_lit _ _ (by omega))) u
    rw [c2.2, z2] at h
    exact h

theorem pullR_any (am ax0 ax1 ax2 ap0 ap1 ap2 bm bx0 bx1 bx2 bp0 bp1 bp2 : Int) (g : Nat) (w : World) (hg : FinW g) (g0 : 0 ≤ V g) (g1 : V g ≤ 2 ^ (40 + deepD))
    (ma : 1 ≤ am ∧ am ≤ 1048576) (mb : 1 ≤ bm ∧ bm ≤ 1048576)
    (b0 : -2199023255552 ≤ bx0 - ax0 ∧ bx0 - ax0 ≤ 2199023255552) (b1 : -2199023255552 ≤ bx1 - ax1 ∧ bx1 - ax1 ≤ 2199023255552) (b2 : -2199023255552 ≤ bx2 - ax2 ∧ bx2 - ax2 ≤ 2199023255552) :
    Calls Try.prog 34 #[.agg #[.int .i64 am, .int .i64 ax0, .int .i64 ax1, .int .i64 ax2, .int .i64 ap0, .int .i64 ap1, .int .i64 ap2], .agg #[.int .i64 bm, .int .i64 bx0, .int .i64 bx1, .int .i64 bx2, .int .i64 bp0, .int .i64 bp1, .int .i64 bp2], .float .f64 g] w
      fun e w' => e = .returned (.agg #[.int .i64 (pk g (am * bm) (bx0 - ax0) (bx1 - ax1) (bx2 - ax2) (bx0 - ax0)), .int .i64 (pk g (am * bm) (bx0 - ax0) (bx1 - ax1) (bx2 - ax2) (bx1 - ax1)), .int .i64 (pk g (am * bm) (bx0 - ax0) (bx1 - ax1) (bx2 - ax2) (bx2 - ax2))]) ∧ Below w.heap.size w w' := by
  have d0 : (bx0 - ax0).natAbs ≤ 2 ^ 41 := by rw [show (2 : Nat) ^ 41 = 2199023255552 from by decide]; omega
  have d1 : (bx1 - ax1).natAbs ≤ 2 ^ 41 := by rw [show (2 : Nat) ^ 41 = 2199023255552 from by decide]; omega
  have d2 : (bx2 - ax2).natAbs ≤ 2 ^ 41 := by rw [show (2 : Nat) ^ 41 = 2199023255552 from by decide]; omega
  obtain ⟨q0, q1, q2, a0, a1, a2, hL, hLf, hLv⟩ := long_words d0 d1 d2
  obtain ⟨l1, l2, l3⟩ := long_parts d0 d1 d2
  have hm0 : 0 ≤ am * bm := Int.mul_nonneg (by omega) (by omega)
  have hm1 : am * bm ≤ 1099511627776 := by
    have := Int.mul_le_mul ma.2 mb.2 (by omega) (by omega)
    omega
  obtain ⟨f1, f2, f3, f4, f5, f6⟩ := force_word hg g0 g1 hm0 hm1 hLf hLv l1 l2 l3
  obtain ⟨x0, y0, z0⟩ := pull_word f5 f6 d0
  obtain ⟨x1, y1, z1⟩ := pull_word f5 f6 d1
  obtain ⟨x2, y2, z2⟩ := pull_word f5 f6 d2
  have hw : IntKind.i64.wrap (am * bm) = am * bm := IntWalk.i64_in _ (by omega)
  rw [← hL] at f1 f3
  have c0 := clamp_word y0
  have c1 := clamp_word y1
  have c2 := clamp_word y2
  refine pullR_raw am ax0 ax1 ax2 ap0 ap1 ap2 bm bx0 bx1 bx2 bp0 bp1 bp2 g w _ _ _ _ _ _ _ _ _ _ _ _ _ _ _ _ _ _ _ _ _ _ _ _ _ _ _ _ _ b0.1 b0.2 b1.1 b1.2 b2.1 b2.2 rfl rfl rfl (fun u => run_fv q0 u) (fun u => run_fv q1 u) (fun u => run_fv q2 u) (fun u => run_fv a0 u) (fun u => run_fv a1 u) (fun u => run_fv a2 u) hw (fun u => run_fv f2 u) f1 (fun u => run_fv f3 u) (fun u => run_fv (hL ▸ f4) u) (fun u => run_fv (hL ▸ x0) u) (fun u => run_fv (hL ▸ x1) u) (fun u => run_fv (hL ▸ x2) u) rfl rfl rfl rfl rfl rfl rfl rfl rfl ?_ ?_ ?_
  · intro u
    rw [hL]
    have h := roundR_any c0.1 (by rw [c0.2]; exact Nat.le_trans (clamp_abs _) (U_lit _ _ (by omega))) u
    rw [c0.2, z0] at h
    exact h
  · intro u
    rw [hL]
    have h := roundR_any c1.1 (by rw [c1.2]; exact Nat.le_trans (clamp_abs _) (U_lit _ _ (by omega))) u
    rw [c1.2, z1] at h
    exact h
  · intro u
    rw [hL]
    have h := roundR_any c2.1 (by rw [c2.2]; exact Nat.le_trans (clamp_abs _) (U_lit _ _ (by omega))) u
    rw [c2.2, z2] at h
    exact h
end Go.Proofs.Ytjapohjfheielaa
