/- Plain law: steps, in whole numbers. Conditions: none. -/
import Derived.Test.YtjapohjfheielaaD1
import Derived.Test.YtjapohjfheielaaC2
namespace Go.Proofs.Ytjapohjfheielaa
open Ieee (FinW V dR big double wordOf deepD)

/-- a constant that is let in -/
def geB (g : Nat) : Bool := o64 g 0 == some .gt || o64 g 0 == some .eq
def leB (g : Nat) : Bool := o64 g 4787326403894837248 == some .lt || o64 g 4787326403894837248 == some .eq
def placeW : Nat := 4787326403894837248
theorem fin_place : FinW placeW := by refine ⟨by decide, ?_⟩; decide
theorem V_place : V placeW = 2 ^ (40 + deepD) := by decide +kernel

open Classical in
noncomputable def stepO (gw : Nat) (h : Int) (n : Nat) (S : Nat → Int) : Option (Nat → Int) :=
  if okAll n (driftS h S) then
    if okAll n (kickS gw h n (driftS h S)) then
      if okAll n (driftS h (kickS gw h n (driftS h S))) then some (driftS h (kickS gw h n (driftS h S))) else none
    else none
  else none
noncomputable def runO (gw : Nat) (h : Int) (n : Nat) (S : Nat → Int) : Nat → Option (Nat → Int)
  | 0 => some S
  | s + 1 => (runO gw h n S s).bind (stepO gw h n)
theorem runO_none {gw : Nat} {h : Int} {n : Nat} {S : Nat → Int} {s : Nat} (hs : runO gw h n S s = none) : ∀ t, s ≤ t → runO gw h n S t = none := by
  intro t ht
  induction ht with
  | refl => exact hs
  | step _ ih => show (runO gw h n S _).bind _ = none; rw [ih]; rfl
theorem stepO_ok {gw : Nat} {h : Int} {n : Nat} {S T : Nat → Int} (hs : stepO gw h n S = some T) : okAll n T := by
  unfold stepO at hs
  split at hs
  · split at hs
    · split at hs
      · rename_i h3; cases hs; exact h3
      · cases hs
    · cases hs
  · cases hs
theorem runO_ok {gw : Nat} {h : Int} {n : Nat} {S : Nat → Int} (h0 : okAll n S) : ∀ (s : Nat) {T : Nat → Int}, runO gw h n S s = some T → okAll n T
  | 0, T, hs => by cases hs; exact h0
  | s + 1, T, hs => by
    have hs' : (runO gw h n S s).bind (stepO gw h n) = some T := hs
    cases hr : runO gw h n S s with
    | none => rw [hr] at hs'; cases hs'
    | some U => rw [hr] at hs'; exact stepO_ok hs'

def sgnN (N : Int) : Int := if N < 0 then -1 else 1
open Classical in
/-- the error and the masses behind N steps -/
noncomputable def runR (gw n : Nat) (S : Nat → Int) (N : Int) : Int × (Nat → Int) :=
  if chk n S ≠ 0 then (chk n S, S)
  else if N < -4096 ∨ 4096 < N ∨ geB gw = false ∨ leB gw = false then (1, S)
  else match runO gw (sgnN N) n S N.natAbs with
    | some T => (0, T)
    | none => (140, S)
theorem runR_chk {gw n : Nat} {S : Nat → Int} {N : Int} (h : chk n S ≠ 0) : runR gw n S N = (chk n S, S) := by unfold runR; rw [if_pos h]
theorem runR_arg {gw n : Nat} {S : Nat → Int} {N : Int} (h : chk n S = 0) (h2 : N < -4096 ∨ 4096 < N ∨ geB gw = false ∨ leB gw = false) : runR gw n S N = (1, S) := by
  unfold runR; rw [if_neg (fun e => e h), if_pos h2]
theorem runR_some {gw n : Nat} {S T : Nat → Int} {N : Int} (h : chk n S = 0) (h2 : ¬ (N < -4096 ∨ 4096 < N ∨ geB gw = false ∨ leB gw = false)) (h3 : runO gw (sgnN N) n S N.natAbs = some T) : runR gw n S N = (0, T) := by
  unfold runR; rw [if_neg (fun e => e h), if_neg h2, h3]
theorem runR_none {gw n : Nat} {S : Nat → Int} {N : Int} (h : chk n S = 0) (h2 : ¬ (N < -4096 ∨ 4096 < N ∨ geB gw = false ∨ leB gw = false)) (h3 : runO gw (sgnN N) n S N.natAbs = none) : runR gw n S N = (140, S) := by
  unfold runR; rw [if_neg (fun e => e h), if_neg h2, h3]
theorem runR_zero {gw n : Nat} {S : Nat → Int} {N : Int} (h : (runR gw n S N).1 = 0) : chk n S = 0 ∧ ¬ (N < -4096 ∨ 4096 < N ∨ geB gw = false ∨ leB gw = false) ∧ runO gw (sgnN N) n S N.natAbs = some (runR gw n S N).2 := by
  by_cases h1 : chk n S = 0
  · by_cases h2 : N < -4096 ∨ 4096 < N ∨ geB gw = false ∨ leB gw = false
    · rw [runR_arg h1 h2] at h; cases h
    · cases h3 : runO gw (sgnN N) n S N.natAbs with
      | none => rw [runR_none h1 h2 h3] at h; cases h
      | some T => rw [runR_some h1 h2 h3]; exact ⟨h1, h2, rfl⟩
  · rw [runR_chk h1] at h; exact absurd h h1

/-- what is let in is finite -/
theorem g_fin {g : Nat} (hw : g < 18446744073709551616) (h1 : geB g = true) (h2 : leB g = true) : FinW g ∧ 0 ≤ V g ∧ V g ≤ 2 ^ (40 + deepD) := by
  have hr : double.rung g ≤ double.infRung := by
    rcases Nat.lt_or_ge double.infRung (double.rung g) with h | h
    · exfalso
      have : o64 g 0 = none := Ieee.Format.order_nan_left double Ieee.ok_double h
      unfold geB at h1; rw [this] at h1; exact absurd h1 (by decide)
    · exact h
  have hf : FinW g := by
    refine ⟨hw, ?_⟩
    rcases Nat.lt_or_eq_of_le hr with h | h
    · exact h
    · exfalso
      have hk := Ieee.Format.order_eq double Ieee.ok_double hr (Nat.le_of_lt fin_place.2)
      have hk0 := Ieee.Format.order_eq double Ieee.ok_double hr (Nat.le_of_lt fin_zero.2)
      have e1 : o64 g placeW = some (compare (double.skey g) (double.skey placeW)) := hk
      have e0 : o64 g 0 = some (compare (double.skey g) (double.skey 0)) := hk0
      have p1 : double.skey placeW < (double.infRung : Int) := by decide
      have p0 : double.skey 0 = 0 := by decide
      have pi : (0 : Int) < (double.infRung : Int) := by decide
      unfold leB at h2
      unfold geB at h1
      unfold placeW at e1
      rw [e1] at h2
      rw [e0, p0] at h1
      unfold Ieee.Format.skey at h1 h2
      cases hn : double.neg g
      · rw [hn, h] at h2
        have := cmp_gt.2 p1
        unfold Ieee.Format.skey placeW at this
        simp only [Bool.false_eq_true, if_false] at h2
        rw [this] at h2
        exact absurd h2 (by decide)
      · rw [hn, h] at h1
        simp only [if_true] at h1
        have hlt : compare (-(double.infRung : Int)) 0 = .lt := cmp_lt.2 (by omega)
        rw [hlt] at h1
        exact absurd h1 (by decide)
  refine ⟨hf, ?_, ?_⟩
  · unfold geB at h1
    rw [o64_V hf fin_zero, V_zero] at h1
    rcases Int.lt_trichotomy (V g) 0 with h | h | h
    · rw [cmp_lt.2 h] at h1; exact absurd h1 (by decide)
    · omega
    · omega
  · have h3 : (o64 g placeW == some .lt || o64 g placeW == some .eq) = true := h2
    rw [o64_V hf fin_place, V_place] at h3
    rcases Int.lt_trichotomy (V g) (2 ^ (40 + deepD)) with h | h | h
    · omega
    · omega
    · rw [cmp_gt.2 h] at h3; exact absurd h3 (by decide)
end Go.Proofs.Ytjapohjfheielaa
