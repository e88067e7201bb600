/- Walks: math.Ldexp at a whole number of 53 bits. Conditions: 2^52 ≤ n ≤ 2^53; the place as said. -/
import Derived.Test.YtlegkefonpiakaaK15
namespace Go.Proofs.Ytlegkefonpiakaa
open Go.RowKit
open Ieee (FinW V dR big double wordOf)

attribute [local irreducible] Ieee.V Ieee.Format.rnd fv Ieee.big

theorem fin_one : FinW 4607182418800017408 := by refine ⟨by omega, ?_⟩; decide
theorem V_one : V 4607182418800017408 = 2 ^ Ieee.deepD := by unfold V; decide +kernel
theorem one_mul_word {D : Nat} (hD : FinW D) (h0 : V D ≠ 0) (hb : (V D).natAbs ≤ big) : FOk .mul 4607182418800017408 D ∧ fv .mul 4607182418800017408 D = D := by
  obtain ⟨h1, h2, h3⟩ := w_mul (M := V D) fin_one hD (by rw [V_one, Int.mul_comm]) hb
  have e : dR (V D) = V D := double.rnd_of_fits Ieee.hp52 Ieee.V_fits
  rw [e] at h3
  exact ⟨h1, Ieee.word_unique h2 hD h3 (by rw [h3]; exact h0)⟩

theorem rung_pos {D : Nat} (h : D < 9218868437227405312) : FinW D ∧ (V D).natAbs = double.unit D := by
  have hr : double.rung D = D := by rw [rung_d]; exact rg_of_lt (by omega)
  refine ⟨⟨by omega, by rw [hr, infRung_d]; unfold inf64; omega⟩, ?_⟩
  rw [Ieee.V_abs, hr]

theorem order_pos {x c : Nat} (hx : x < 9218868437227405312) (hc : c < 9218868437227405312) : o64 x c = some (compare (x : Int) (c : Int)) := by
  have s : ∀ c, c < 9218868437227405312 → rg c = c ∧ sk c = (c : Int) := by
    intro c hc
    have h1 : rg c = c := rg_of_lt (by omega)
    refine ⟨h1, ?_⟩
    unfold sk; rw [h1]
    have : ng c = false := by unfold ng; simp; omega
    rw [this]; rfl
  rw [o64_num (by omega) (by omega) (by rw [(s x hx).1]; unfold inf64; omega) (by rw [(s c hc).1]; unfold inf64; omega), (s x hx).2, (s c hc).2]

theorem ldexp_whole {n H : Nat} (h1 : 4503599627370496 ≤ n) (h2 : n ≤ 9007199254740992) (hH : 53 ≤ H) (hH2 : H ≤ 1600) (w : World) :
    Calls Try.prog 45 #[.float .f64 (floatOfInt .f64 (n : Int)), .int .i64 ((H : Int) - 52 - 1024)] w fun e' w' => e' = .returned (.float .f64 (n + 4503599627370496 * (H - 2))) ∧ w = w' := by
  rw [iw_word h1 h2]
  obtain ⟨x, hx⟩ : ∃ x, n + 4503599627370496 * 1074 = x := ⟨_, rfl⟩
  have hw := ldW_whole (n := n) (H := H)
  rw [hx] at hw ⊢
  obtain ⟨D, hD⟩ : ∃ D, n + 4503599627370496 * (H - 2) = D := ⟨_, rfl⟩
  rw [hD] at hw ⊢
  have hD1 : D < 9218868437227405312 := by omega
  have hu : double.unit D = n * 2 ^ (H - 2) := by
    have hB : double.binade = 4503599627370496 := binade_d
    unfold Ieee.Format.unit
    rw [hB, if_neg (by omega)]
    rcases Nat.lt_or_eq_of_le h2 with h | h
    · have e1 : D % 4503599627370496 = n - 4503599627370496 := by omega
      have e2 : D / 4503599627370496 - 1 = H - 2 := by omega
      rw [e1, e2, show 4503599627370496 + (n - 4503599627370496) = n from by omega]
    · have e1 : D % 4503599627370496 = 0 := by omega
      have e2 : D / 4503599627370496 - 1 = H - 2 + 1 := by omega
      rw [e1, e2, Nat.pow_succ, Nat.add_zero, h, Nat.mul_comm (2 ^ (H - 2)) 2, ← Nat.mul_assoc]
  obtain ⟨hF, hV⟩ := rung_pos hD1
  rw [hu] at hV
  have hp := Nat.two_pow_pos (H - 2)
  have hV0 : V D ≠ 0 := by
    intro h
    rw [h] at hV
    have : 0 < n * 2 ^ (H - 2) := Nat.mul_pos (by omega) hp
    omega
  have hVb : (V D).natAbs ≤ big := by
    rw [hV]
    have e : (9007199254740992 : Nat) = 2 ^ 53 := by decide
    have h3 : n * 2 ^ (H - 2) ≤ 2 ^ (53 + (H - 2)) := by rw [Nat.pow_add, ← e]; exact Nat.mul_le_mul_right _ h2
    have h4 : 2 ^ (53 + (H - 2)) ≤ big := by
      unfold Ieee.big; exact Nat.pow_le_pow_right (by omega) (by unfold Ieee.bigE; omega)
    exact Nat.le_trans h3 h4
  obtain ⟨hm, hv⟩ := one_mul_word hF hV0 hVb
  have hxl : x < 9218868437227405312 := by omega
  have hrx : rg x = x := rg_of_lt (by omega)
  have E1 : ((H : Int) - 52 - 1024) + ((x / 4503599627370496 : Nat) : Int) = ((H - 2 + n / 4503599627370496 : Nat) : Int) := by omega
  refine ldexpM_any _ _ _ _ (fun u => ?_)
  rw [← hw]
  rw [← hw] at hm hv
  refine ldexp_any x (H - 2 + n / 4503599627370496) _ u (by omega) ?_ ?_ ?_ ?_ E1 (by omega) (by omega) (by omega) hm hv
  · rw [order_pos hxl (by omega)]
    have : compare (x : Int) ((0 : Nat) : Int) = .gt := cmp_gt.2 (by omega)
    rw [this]; rfl
  · rw [hrx, order_pos hxl (by omega)]
    have : compare (x : Int) ((9218868437227405311 : Nat) : Int) ≠ .gt := fun h => by have := cmp_gt.1 h; omega
    cases hc : compare (x : Int) ((9218868437227405311 : Nat) : Int) with
    | gt => exact absurd hc this
    | lt => rfl
    | eq => rfl
  · rw [order_pos hxl hxl]
    have : compare (x : Int) (x : Int) = .eq := cmp_eq.2 rfl
    rw [this]; rfl
  · rw [hrx, order_pos hxl (by omega)]
    have : compare (x : Int) ((4503599627370496 : Nat) : Int) ≠ .lt := fun h => by have := cmp_lt.1 h; omega
    cases hc : compare (x : Int) ((4503599627370496 : Nat) : Int) with
    | lt => exact absurd hc this
    | gt => rfl
    | eq => rfl
end Go.Proofs.Ytlegkefonpiakaa
