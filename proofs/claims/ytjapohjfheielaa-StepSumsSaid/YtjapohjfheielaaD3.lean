/- Plain law: steps forth and back, steps behind steps, the impulses' sums. Conditions: none. -/
import Derived.Test.YtjapohjfheielaaD2
namespace Go.Proofs.Ytjapohjfheielaa
open Ieee (FinW V dR big double wordOf deepD)

attribute [local irreducible] rd fr

/-! ### there and back -/
theorem drift_back (h : Int) (S : Nat → Int) : driftS (-h) (driftS h S) = S := by
  funext j
  unfold driftS
  by_cases h1 : 1 ≤ j % 7 ∧ j % 7 ≤ 3
  · rw [if_pos h1, if_pos h1, if_neg (show ¬ (1 ≤ (j + 3) % 7 ∧ (j + 3) % 7 ≤ 3) from by omega), if_neg (show ¬ (1 ≤ (j - j % 7) % 7 ∧ (j - j % 7) % 7 ≤ 3) from by omega), Int.neg_mul]; omega
  · rw [if_neg h1, if_neg h1]
theorem kickS_low (g : Nat) (h : Int) (n : Nat) (S : Nat → Int) (a t : Nat) (ht : t < 4) : kickS g h n S (a * 7 + t) = S (a * 7 + t) := by
  unfold kickS; rw [if_neg (by omega)]
theorem fr_congr {g : Nat} {S T : Nat → Int} {a b c : Nat} (hc : c < 3) (ha : ∀ t, t < 4 → T (a * 7 + t) = S (a * 7 + t)) (hb : ∀ t, t < 4 → T (b * 7 + t) = S (b * 7 + t)) : fr g T a b c = fr g S a b c := by
  have a0 := ha 0 (by omega)
  have b0 := hb 0 (by omega)
  simp only [Nat.add_zero] at a0 b0
  have ac := ha (1 + c) (by omega)
  have bc := hb (1 + c) (by omega)
  rw [← Nat.add_assoc] at ac bc
  have e : ∀ Q : Nat → Int, fr g Q a b c = pk g (Q (a * 7) * Q (b * 7)) (Q (b * 7 + 1) - Q (a * 7 + 1)) (Q (b * 7 + 2) - Q (a * 7 + 2)) (Q (b * 7 + 3) - Q (a * 7 + 3)) (Q (b * 7 + 1 + c) - Q (a * 7 + 1 + c)) := fun Q => by unfold fr; rfl
  rw [e, e, a0, b0, ac, bc, ha 1 (by omega), ha 2 (by omega), ha 3 (by omega), hb 1 (by omega), hb 2 (by omega), hb 3 (by omega)]
theorem fr_kick (g : Nat) (h : Int) (n : Nat) (S : Nat → Int) (a b c : Nat) (hc : c < 3) : fr g (kickS g h n S) a b c = fr g S a b c :=
  fr_congr hc (fun _ ht => kickS_low _ _ _ _ _ _ ht) (fun _ ht => kickS_low _ _ _ _ _ _ ht)
theorem kick_back (g : Nat) (h : Int) (n : Nat) (S : Nat → Int) : kickS g (-h) n (kickS g h n S) = S := by
  funext e
  have hk : ∀ Q : Nat → Int, ∀ h', kickS g h' n Q e = if 4 ≤ e % 7 then Q e + h' * sumTo n (fun b => fr g Q (e / 7) b (e % 7 - 4)) else Q e := fun _ _ => rfl
  rw [hk, hk]
  by_cases h4 : 4 ≤ e % 7
  · rw [if_pos h4, if_pos h4, sumTo_congr (G := fun b => fr g S (e / 7) b (e % 7 - 4)) (fun b _ => fr_kick _ _ _ _ _ _ _ (by omega)), Int.neg_mul]; omega
  · rw [if_neg h4, if_neg h4]
theorem stepO_back {gw : Nat} {h : Int} {n : Nat} {S T : Nat → Int} (h0 : okAll n S) (hs : stepO gw h n S = some T) : stepO gw (-h) n T = some S := by
  unfold stepO at hs
  by_cases h1 : okAll n (driftS h S)
  · rw [if_pos h1] at hs
    by_cases h2 : okAll n (kickS gw h n (driftS h S))
    · rw [if_pos h2] at hs
      by_cases h3 : okAll n (driftS h (kickS gw h n (driftS h S)))
      · rw [if_pos h3] at hs
        cases hs
        unfold stepO
        rw [drift_back, kick_back, drift_back, if_pos h2, if_pos h1, if_pos h0]
      · rw [if_neg h3] at hs; cases hs
    · rw [if_neg h2] at hs; cases hs
  · rw [if_neg h1] at hs; cases hs
theorem runO_add (gw : Nat) (h : Int) (n : Nat) (S : Nat → Int) (a : Nat) : ∀ b, runO gw h n S (a + b) = (runO gw h n S a).bind (fun U => runO gw h n U b)
  | 0 => by cases hr : runO gw h n S a <;> simp [runO]
  | b + 1 => by
    show (runO gw h n S (a + b)).bind (stepO gw h n) = _
    rw [runO_add gw h n S a b]
    cases hr : runO gw h n S a <;> rfl
theorem runO_front (gw : Nat) (h : Int) (n : Nat) (S : Nat → Int) (b : Nat) : runO gw h n S (b + 1) = (stepO gw h n S).bind (fun U => runO gw h n U b) := by
  rw [Nat.add_comm, runO_add]; rfl
theorem runO_back {gw : Nat} {h : Int} {n : Nat} {S : Nat → Int} (h0 : okAll n S) : ∀ (s : Nat) {T : Nat → Int}, runO gw h n S s = some T → runO gw (-h) n T s = some S
  | 0, T, hs => by cases hs; rfl
  | s + 1, T, hs => by
    have hs' : (runO gw h n S s).bind (stepO gw h n) = some T := hs
    cases hr : runO gw h n S s with
    | none => rw [hr] at hs'; cases hs'
    | some U =>
      rw [hr] at hs'
      rw [runO_front, stepO_back (runO_ok h0 s hr) hs']
      exact runO_back h0 s hr
theorem run_back {gw n : Nat} {S : Nat → Int} {N : Int} (h : (runR gw n S N).1 = 0) : runR gw n (runR gw n S N).2 (-N) = (0, S) := by
  obtain ⟨h1, h2, h3⟩ := runR_zero h
  obtain ⟨h8, hok⟩ := chk_zero.1 h1
  have hokT := runO_ok hok _ h3
  have hb := runO_back hok _ h3
  refine runR_some (chk_good h8 hokT) (by
    intro hc
    apply h2
    rcases hc with hc | hc | hc | hc
    · exact Or.inr (Or.inl (by omega))
    · exact Or.inl (by omega)
    · exact Or.inr (Or.inr (Or.inl hc))
    · exact Or.inr (Or.inr (Or.inr hc))) ?_
  rw [Int.natAbs_neg]
  by_cases hz : N = 0
  · subst hz; exact hb
  · have : sgnN (-N) = -sgnN N := by
      unfold sgnN
      by_cases hn : N < 0
      · rw [if_pos hn, if_neg (by omega)]; rfl
      · rw [if_neg hn, if_pos (by omega)]
    rw [this]; exact hb

/-- steps behind steps -/
theorem run_on {gw n : Nat} {S : Nat → Int} {M N : Int} (h : (runR gw n S M).1 = 0) (hs : 0 ≤ M ∧ 0 ≤ N ∨ M ≤ 0 ∧ N ≤ 0) (hb : -4096 ≤ M + N ∧ M + N ≤ 4096) :
    (runR gw n (runR gw n S M).2 N).1 = (runR gw n S (M + N)).1 ∧ ((runR gw n S (M + N)).1 = 0 → (runR gw n (runR gw n S M).2 N).2 = (runR gw n S (M + N)).2) := by
  obtain ⟨h1, h2, h3⟩ := runR_zero h
  obtain ⟨h8, hok⟩ := chk_zero.1 h1
  have hokT := runO_ok hok _ h3
  have hg : ∀ K : Int, -4096 ≤ K → K ≤ 4096 → ¬ (K < -4096 ∨ 4096 < K ∨ geB gw = false ∨ leB gw = false) := fun K k1 k2 hc => by
    apply h2
    rcases hc with hc | hc | hc | hc
    · omega
    · omega
    · exact Or.inr (Or.inr (Or.inl hc))
    · exact Or.inr (Or.inr (Or.inr hc))
  have hT := chk_good h8 hokT
  have key : runO gw (sgnN N) n (runR gw n S M).2 N.natAbs = runO gw (sgnN (M + N)) n S (M + N).natAbs := by
    by_cases hN : N = 0
    · subst hN
      rw [Int.add_zero, h3]; rfl
    · by_cases hM : M = 0
      · subst hM
        have : (runR gw n S 0).2 = S := by
          have h4 : some (runR gw n S 0).2 = some S := h3.symm.trans rfl
          exact Option.some.inj h4
        rw [this, Int.zero_add]
      · have e1 : sgnN N = sgnN M ∧ sgnN (M + N) = sgnN M := by
          unfold sgnN
          by_cases hn : M < 0
          · rw [if_pos hn, if_pos (by omega), if_pos (by omega)]; exact ⟨rfl, rfl⟩
          · rw [if_neg hn, if_neg (by omega), if_neg (by omega)]; exact ⟨rfl, rfl⟩
        rw [e1.1, e1.2, show (M + N).natAbs = M.natAbs + N.natAbs from by omega, runO_add, h3]; rfl
  cases hr : runO gw (sgnN (M + N)) n S (M + N).natAbs with
  | none =>
    rw [hr] at key
    rw [runR_none hT (hg N (by omega) (by omega)) key, runR_none h1 (hg _ hb.1 hb.2) hr]
    exact ⟨rfl, fun hc => by cases hc⟩
  | some U =>
    rw [hr] at key
    rw [runR_some hT (hg N (by omega) (by omega)) key, runR_some h1 (hg _ hb.1 hb.2) hr]
    exact ⟨rfl, fun _ => rfl⟩

/-! ### the impulses' sums -/
def totP (n : Nat) (S : Nat → Int) (c : Nat) : Int := sumTo n (fun i => S (i * 7 + 4 + c))
theorem totP_drift (h : Int) (n : Nat) (S : Nat → Int) (c : Nat) (hc : c < 3) : totP n (driftS h S) c = totP n S c := sumTo_congr (fun i _ => driftS_p h S i c hc)
theorem sum_anti (g n : Nat) (S : Nat → Int) (c : Nat) : sumTo n (fun a => sumTo n (fun b => fr g S a b c)) = 0 := by
  have h1 : sumTo n (fun a => sumTo n (fun b => fr g S a b c)) = sumTo n (fun b => sumTo n (fun a => fr g S a b c)) := sumTo_swap n n _
  have h2 : sumTo n (fun b => sumTo n (fun a => fr g S a b c)) = -sumTo n (fun b => sumTo n (fun a => fr g S b a c)) := by
    rw [← sumTo_neg]
    refine sumTo_congr (fun b _ => ?_)
    rw [← sumTo_neg]
    exact sumTo_congr (fun a _ => fr_anti g S b a c)
  omega
theorem totP_kick (g : Nat) (h : Int) (n : Nat) (S : Nat → Int) (c : Nat) (hc : c < 3) : totP n (kickS g h n S) c = totP n S c := by
  have h1 : ∀ i, kickS g h n S (i * 7 + 4 + c) = S (i * 7 + 4 + c) + h * sumTo n (fun b => fr g S i b c) := fun i => by
    unfold kickS
    rw [if_pos (by omega), show (i * 7 + 4 + c) / 7 = i from by omega, show (i * 7 + 4 + c) % 7 - 4 = c from by omega]
  show sumTo n (fun i => kickS g h n S (i * 7 + 4 + c)) = _
  rw [sumTo_congr (fun i _ => h1 i), sumTo_add, sumTo_mul, sum_anti]
  show totP n S c + h * 0 = _
  rw [Int.mul_zero, Int.add_zero]
theorem totP_step {gw : Nat} {h : Int} {n : Nat} {S T : Nat → Int} (hs : stepO gw h n S = some T) (c : Nat) (hc : c < 3) : totP n T c = totP n S c := by
  unfold stepO at hs
  split at hs
  · split at hs
    · split at hs
      · cases hs
        rw [totP_drift _ _ _ _ hc, totP_kick _ _ _ _ _ hc, totP_drift _ _ _ _ hc]
      · cases hs
    · cases hs
  · cases hs
theorem totP_run {gw : Nat} {h : Int} {n : Nat} {S : Nat → Int} (c : Nat) (hc : c < 3) : ∀ (s : Nat) {T : Nat → Int}, runO gw h n S s = some T → totP n T c = totP n S c
  | 0, T, hs => by cases hs; rfl
  | s + 1, T, hs => by
    have hs' : (runO gw h n S s).bind (stepO gw h n) = some T := hs
    cases hr : runO gw h n S s with
    | none => rw [hr] at hs'; cases hs'
    | some U => rw [hr] at hs'; rw [totP_step hs' c hc, totP_run c hc s hr]
theorem totP_R {gw n : Nat} {S : Nat → Int} {N : Int} (h : (runR gw n S N).1 = 0) (c : Nat) (hc : c < 3) : totP n (runR gw n S N).2 c = totP n S c := totP_run c hc _ (runR_zero h).2.2
theorem run_ok {gw n : Nat} {S : Nat → Int} {N : Int} (h : (runR gw n S N).1 = 0) : chk n (runR gw n S N).2 = 0 ∧ chk n S = 0 := by
  obtain ⟨h1, _, h3⟩ := runR_zero h
  obtain ⟨h8, hok⟩ := chk_zero.1 h1
  exact ⟨chk_good h8 (runO_ok hok _ h3), h1⟩

/-! ### awake -/
def awS : Nat → Int := fun j => if j = 0 then 1 else if j = 4 then 4 else 0
theorem rd_4 : rN (V (fv .quo (iw 4) (iw (2 * 1)))) = 2 := by decide +kernel
theorem rd_0 : rN (V (fv .quo (iw 0) (iw (2 * 1)))) = 0 := by decide +kernel
theorem rd4 : rd 4 1 = 2 := by unfold rd; exact rd_4
theorem rd0 : rd 0 1 = 0 := by unfold rd; exact rd_0
theorem ok_one {S : Nat → Int} (hm : S 0 = 1) (h : ∀ j, 1 ≤ j → j < 7 → -4 ≤ S j ∧ S j ≤ 4) : okAll 1 S := by
  intro i hi
  obtain rfl : i = 0 := by omega
  refine ⟨by simp only [Nat.zero_mul]; omega, fun k hk => ?_⟩
  have h1 := h (0 * 7 + 1 + k) (by omega) (by omega)
  have h2 := h (0 * 7 + 4 + k) (by omega) (by omega)
  exact ⟨⟨by omega, by omega⟩, ⟨by omega, by omega⟩⟩
theorem aw_drift {S : Nat → Int} (hm : S 0 = 1) (h4 : S 4 = 4) (h5 : S 5 = 0) (h6 : S 6 = 0) : driftS 1 S 0 = 1 ∧ driftS 1 S 1 = S 1 + 2 ∧ driftS 1 S 2 = S 2 ∧ driftS 1 S 3 = S 3 ∧ driftS 1 S 4 = 4 ∧ driftS 1 S 5 = 0 ∧ driftS 1 S 6 = 0 := by
  have hd : ∀ j, driftS 1 S j = if 1 ≤ j % 7 ∧ j % 7 ≤ 3 then S j + 1 * rd (S (j + 3)) (S (j - j % 7)) else S j := fun _ => rfl
  refine ⟨by rw [hd]; exact hm, ?_, ?_, ?_, by rw [hd]; exact h4, by rw [hd]; exact h5, by rw [hd]; exact h6⟩
  · rw [hd, if_pos (by omega), show S (1 + 3) = 4 from h4, show S (1 - 1 % 7) = 1 from hm, rd4]; rfl
  · rw [hd, if_pos (by omega), show S (2 + 3) = 0 from h5, show S (2 - 2 % 7) = 1 from hm, rd0]; omega
  · rw [hd, if_pos (by omega), show S (3 + 3) = 0 from h6, show S (3 - 3 % 7) = 1 from hm, rd0]; omega
theorem aw_kick (S : Nat → Int) (j : Nat) (hj : j < 7) : kickS 0 1 1 S j = S j := by
  unfold kickS
  split
  · rw [show j / 7 = 0 from by omega]
    show S j + 1 * (0 + fr 0 S 0 0 (j % 7 - 4)) = S j
    rw [fr_self]; omega
  · rfl
theorem aw_run : (runR 0 1 awS 1).1 = 0 ∧ (runR 0 1 awS 1).2 1 = 4 := by
  have hs : ∀ j, 1 ≤ j → j < 7 → -4 ≤ awS j ∧ awS j ≤ 4 := fun j h1 h2 => by unfold awS; split <;> (try split) <;> omega
  have ok0 : okAll 1 awS := ok_one rfl hs
  obtain ⟨a0, a1, a2, a3, a4, a5, a6⟩ := aw_drift (S := awS) rfl rfl rfl rfl
  have b1 : driftS 1 awS 1 = 2 := a1
  have b2 : driftS 1 awS 2 = 0 := a2
  have b3 : driftS 1 awS 3 = 0 := a3
  have ok1 : okAll 1 (driftS 1 awS) := ok_one a0 (fun j h1 h2 => by
    have : j = 1 ∨ j = 2 ∨ j = 3 ∨ j = 4 ∨ j = 5 ∨ j = 6 := by omega
    rcases this with rfl | rfl | rfl | rfl | rfl | rfl <;> omega)
  have hk := aw_kick (driftS 1 awS)
  have k0 := hk 0 (by omega)
  have k1 := hk 1 (by omega)
  have k2 := hk 2 (by omega)
  have k3 := hk 3 (by omega)
  have k4 := hk 4 (by omega)
  have k5 := hk 5 (by omega)
  have k6 := hk 6 (by omega)
  have ok2 : okAll 1 (kickS 0 1 1 (driftS 1 awS)) := ok_one (by omega) (fun j h1 h2 => by
    have : j = 1 ∨ j = 2 ∨ j = 3 ∨ j = 4 ∨ j = 5 ∨ j = 6 := by omega
    rcases this with rfl | rfl | rfl | rfl | rfl | rfl <;> omega)
  obtain ⟨c0, c1, c2, c3, c4, c5, c6⟩ := aw_drift (S := kickS 0 1 1 (driftS 1 awS)) (by omega) (by omega) (by omega) (by omega)
  have ok3 : okAll 1 (driftS 1 (kickS 0 1 1 (driftS 1 awS))) := ok_one c0 (fun j h1 h2 => by
    have : j = 1 ∨ j = 2 ∨ j = 3 ∨ j = 4 ∨ j = 5 ∨ j = 6 := by omega
    rcases this with rfl | rfl | rfl | rfl | rfl | rfl <;> omega)
  have hst : stepO 0 1 1 awS = some (driftS 1 (kickS 0 1 1 (driftS 1 awS))) := by
    unfold stepO; rw [if_pos ok1, if_pos ok2, if_pos ok3]
  have hr := runR_some (gw := 0) (n := 1) (S := awS) (N := 1) (T := driftS 1 (kickS 0 1 1 (driftS 1 awS))) (chk_good (by omega) ok0) (by
    have e1 : geB 0 = true := by decide +kernel
    have e2 : leB 0 = true := by decide +kernel
    rw [e1, e2]; simp) hst
  rw [hr]
  refine ⟨rfl, ?_⟩
  show driftS 1 (kickS 0 1 1 (driftS 1 awS)) 1 = 4
  omega
end Go.Proofs.Ytjapohjfheielaa
