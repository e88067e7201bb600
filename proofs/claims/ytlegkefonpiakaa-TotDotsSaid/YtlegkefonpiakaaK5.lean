/- Walks: a number more, a product more. Conditions: fit words. -/
import Derived.Test.YtlegkefonpiakaaK4
namespace Go.Proofs.Ytlegkefonpiakaa
open Go.RowKit
open Ieee (FinW V dR big double wordOf deepD)

/-- a fit number in units of 2^-1024 -/
def aP (r : Nat) : Nat := mM r * 2 ^ (r / 4503599627370496 - 51)
def aV (x : Nat) : Int := if V x < 0 then -(aP (rg x) : Int) else (aP (rg x) : Int)
theorem fit_range {x : Nat} (h : fitB x = true) : rg x = 0 ∨ (823 ≤ rg x / 4503599627370496 ∧ rg x / 4503599627370496 ≤ 1223) := by
  rw [fit_spec] at h
  have := of_decide_eq_true h
  omega
theorem aP_V {x : Nat} (h : fitB x = true) : (V x).natAbs = aP (rg x) * 2 ^ 50 := by
  rw [Ieee.V_abs, rung_d]
  rcases fit_range h with h | ⟨h1, h2⟩
  · rw [h]; rfl
  · unfold aP mM Ieee.Format.unit
    rw [binade_d, if_neg (by omega), if_neg (by omega), Nat.mul_assoc, ← Nat.pow_add]
    congr 2
    omega
theorem aV_V {x : Nat} (h : fitB x = true) : aV x * 2 ^ 50 = V x := by
  have := aP_V h
  unfold aV
  have e : (2 : Int) ^ 50 = 1125899906842624 := by decide
  have e2 : (2 : Nat) ^ 50 = 1125899906842624 := by decide
  rw [e2] at this
  rw [e]
  split <;> omega
theorem aV_zero {x : Nat} (h : rg x = 0) : aV x = 0 := by
  unfold aV aP mM; rw [h]; split <;> rfl
theorem mM_lt {r : Nat} : mM r < 9007199254740992 := by unfold mM; split <;> omega
theorem mM_zero {r : Nat} : mM r = 0 ↔ r = 0 := by unfold mM; split <;> omega

set_option maxRecDepth 20000 in
theorem addA_any (g x : Nat) (v : Int) (w : World) (ha : AccR w g (limb v)) (hx : x < 18446744073709551616) (hf : fitB x = true) :
    Calls Try.prog 36 #[.pointer (some ⟨g, 0, none⟩), .float .f64 x] w fun e w' => e = .returned (.tuple #[]) ∧ AccR w' g (limb (v + aV x)) ∧ Touch g w w' := by
  have hm := fun u => mant_any x u
  have hlt := lt0_V (fit_V hx hf).1
  by_cases h0 : rg x = 0
  · have e1 : mM (rg x) = 0 := mM_zero.2 h0
    have e2 := aV_zero h0
    rw [e1] at hm
    rw [e2, Int.add_zero]
    obtain ⟨E, hE⟩ : ∃ E, mE (rg x) = E := ⟨_, rfl⟩
    rw [hE] at hm
    have HM := Lib.hid hm
    have HA := Lib.hid ha
    clear hx hf hlt h0 e1 e2 hE hm ha
    go_enter Try.func36, Try.ntmps36
    go_wp2_with (first | (go_at_call 46; refine (HM.out _).mono ?_; rintro e w' ⟨rfl, rfl⟩))
    go_end0
    exact ⟨rfl, HA.out, Touch.refl _ _⟩
  · obtain ⟨q1, q2⟩ : 823 ≤ rg x / 4503599627370496 ∧ rg x / 4503599627370496 ≤ 1223 := by
      rcases fit_range hf with h | h
      · exact absurd h h0
      · exact h
    have hmz : mM (rg x) ≠ 0 := fun h => h0 (mM_zero.1 h)
    have hmlt : mM (rg x) < 18446744073709551616 := Nat.lt_trans mM_lt (by omega)
    have hE : mE (rg x) + 1024 = ((rg x / 4503599627370496 - 51 : Nat) : Int) := by unfold mE; rw [if_neg (by omega)]; omega
    have hE1 : -300 ≤ mE (rg x) := by omega
    have hE2 : mE (rg x) ≤ 300 := by omega
    obtain ⟨W, k, hW, hk, hat⟩ : ∃ W k, W < 23 ∧ k < 64 ∧ rg x / 4503599627370496 - 51 = 64 * W + k := ⟨(rg x / 4503599627370496 - 51) / 64, (rg x / 4503599627370496 - 51) % 64, by omega, by omega, by omega⟩
    have hput := fun (b : Bool) => put_any g (mM (rg x)) W k v b w ha hmlt hW hk
    have hav : ∀ b, decide (V x < 0) = b → (if b then v - ((mM (rg x) * 2 ^ (64 * W + k) : Nat) : Int) else v + ((mM (rg x) * 2 ^ (64 * W + k) : Nat) : Int)) = v + aV x := by
      intro b hb
      unfold aV aP
      rw [hat]
      by_cases h : V x < 0
      · rw [decide_eq_true h] at hb; subst hb; rw [if_pos rfl, if_pos h]; omega
      · rw [decide_eq_false h] at hb; subst hb; rw [if_neg (by decide), if_neg h]
    obtain ⟨b, hb⟩ : ∃ b, decide (V x < 0) = b := ⟨_, rfl⟩
    have hput := hput b
    rw [hav b hb] at hput
    rw [hb] at hlt
    have hlt : (o64 x 0 == some .lt) = b := hlt
    rw [hat] at hE
    obtain ⟨A, hA⟩ : ∃ A, aV x = A := ⟨_, rfl⟩
    rw [hA] at hput ⊢
    obtain ⟨m, hmm⟩ : ∃ m, mM (rg x) = m := ⟨_, rfl⟩
    obtain ⟨E, hEE⟩ : ∃ E, mE (rg x) = E := ⟨_, rfl⟩
    rw [hmm] at hm hput hmz
    rw [hEE] at hm hE hE1 hE2
    rw [hmm, hEE] at *
    have HM := Lib.hid hm
    have HP := Lib.hid hput
    have hmz1 : (m : Int) ≠ 0 := by omega
    obtain ⟨a, ha2⟩ : ∃ a : Int, ((64 * W + k : Nat) : Int) = a := ⟨_, rfl⟩
    rw [ha2] at hE HP
    clear hm hput hav hb h0 q1 q2 hmlt hat hA hmm hEE ha hx hf hmz ha2 hW hk
    go_enter Try.func36, Try.ntmps36
    go_wp2_with (first | (go_at_call 46; refine (HM.out _).mono ?_; rintro e w' ⟨rfl, rfl⟩))
    go_wp2_with (first | (go_at_call 47; refine HP.out.mono ?_; rintro e w' ⟨rfl, hacc, htt⟩))
    go_end0
    exact ⟨rfl, hacc, htt⟩
end Go.Proofs.Ytlegkefonpiakaa
