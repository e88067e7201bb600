/- Walks: drift, the program's and the reference's. Conditions: masses on the grid, in a block of the call's own. -/
import Derived.Test.YtjapohjfheielaaC0
import Derived.Test.YtjapohjfheielaaA4
import Derived.StillTailTactics
namespace Go.Proofs.Ytjapohjfheielaa
open Go.RowKit
open Ieee (FinW V dR big double wordOf deepD)

def driftS (h : Int) (S : Nat → Int) : Nat → Int := fun j => if 1 ≤ j % 7 ∧ j % 7 ≤ 3 then S j + h * rd (S (j + 3)) (S (j - j % 7)) else S j
theorem driftS_m (h : Int) (S : Nat → Int) (i : Nat) : driftS h S (i * 7) = S (i * 7) := by unfold driftS; rw [if_neg (by omega)]
theorem driftS_x (h : Int) (S : Nat → Int) (i k : Nat) (hk : k < 3) : driftS h S (i * 7 + 1 + k) = S (i * 7 + 1 + k) + h * rd (S (i * 7 + 4 + k)) (S (i * 7)) := by
  unfold driftS
  rw [if_pos (by omega), show i * 7 + 1 + k + 3 = i * 7 + 4 + k from by omega, show i * 7 + 1 + k - (i * 7 + 1 + k) % 7 = i * 7 from by omega]
theorem driftS_p (h : Int) (S : Nat → Int) (i k : Nat) (hk : k < 3) : driftS h S (i * 7 + 4 + k) = S (i * 7 + 4 + k) := by unfold driftS; rw [if_neg (by omega)]
theorem drift_start (h : Int) (S : Nat → Int) (i : Nat) (j : Nat) : mix (i * 7 + 1 + 0) (driftS h S) S j = mix (i * 7) (driftS h S) S j := by
  unfold mix
  by_cases h1 : j < i * 7
  · rw [if_pos (by omega), if_pos h1]
  · rw [if_neg h1]
    by_cases h2 : j = i * 7
    · subst h2; rw [if_pos (by omega), driftS_m]
    · rw [if_neg (by omega)]
theorem drift_end (h : Int) (S : Nat → Int) (i : Nat) (j : Nat) : mix ((i + 1) * 7) (driftS h S) S j = mix (i * 7 + 1 + 3) (driftS h S) S j := by
  unfold mix
  by_cases h1 : j < i * 7 + 1 + 3
  · rw [if_pos (by omega), if_pos h1]
  · rw [if_neg h1]
    by_cases h2 : j < (i + 1) * 7
    · rw [if_pos h2]; unfold driftS; rw [if_neg (by omega)]
    · rw [if_neg h2]

/-- what stands in one drift -/
structure DriftOk (h x p m Y : Int) : Prop where
  e2 : IntKind.i64.wrap (2 * m) = 2 * m
  q : FOk .quo (iw p) (iw (2 * m))
  f : FinW (fv .quo (iw p) (iw (2 * m)))
  b : (V (fv .quo (iw p) (iw (2 * m)))).natAbs ≤ 2251799813685247 * 2 ^ deepD
  e3 : IntKind.i64.wrap (h * rN (V (fv .quo (iw p) (iw (2 * m))))) = h * rN (V (fv .quo (iw p) (iw (2 * m))))
  e4 : IntKind.i64.wrap (x + h * rN (V (fv .quo (iw p) (iw (2 * m))))) = Y
theorem drift_ok {S : Nat → Int} {n i k : Nat} {h : Int} (hok : okAll n S) (hi : i < n) (hk : k < 3) (hh : h = 1 ∨ h = -1) :
    DriftOk h (S (i * 7 + 1 + k)) (S (i * 7 + 4 + k)) (S (i * 7)) (driftS h S (i * 7 + 1 + k)) := by
  obtain ⟨hm, hxp⟩ := hok i hi
  obtain ⟨hx, hp⟩ := hxp k hk
  obtain ⟨a1, a2, a3, _⟩ := drift_word hp hm
  have a4 := rd_le hp hm
  have hr : rN (V (fv .quo (iw (S (i * 7 + 4 + k))) (iw (2 * S (i * 7))))) = rd (S (i * 7 + 4 + k)) (S (i * 7)) := rfl
  have hhr : (h * rd (S (i * 7 + 4 + k)) (S (i * 7))).natAbs ≤ 4503599627370495 := by
    rcases hh with rfl | rfl
    · rw [Int.one_mul]; exact a4
    · rw [Int.neg_mul, Int.one_mul, Int.natAbs_neg]; exact a4
  have hx1 := hx.1
  have hx2 := hx.2
  refine ⟨IntWalk.i64_in _ (by omega), a1, a2, a3, ?_, ?_⟩
  · rw [hr]; exact IntWalk.i64_in _ (by omega)
  · rw [hr, driftS_x _ _ _ _ hk]; exact IntWalk.i64_in _ (by omega)

attribute [local irreducible] Ieee.V Ieee.Format.rnd fv Ieee.big Ieee.deepD flW sqW hU rN driftS

set_option maxHeartbeats 1000000 in
theorem driftP_any (g n cap : Nat) (S : Nat → Int) (h : Int) (w : World) (ho : Own w g n cap S) (hn : n ≤ 8) (hok : okAll n S) (hh : h = 1 ∨ h = -1) :
    Calls Try.prog 26 #[.slice (some ⟨g, 0, none⟩) n cap, .int .i64 h] w fun e w' => e = .returned (.tuple #[]) ∧ Own w' g n cap (driftS h S) ∧ Touch g w w' := by
  have HO := Lib.hid ho
  have HK := Lib.hid hok
  have HH := Lib.hid hh
  clear ho hok hh
  go_enter Try.func26, Try.ntmps26
  go_wp2
  go_loopw [8] (fun vi wr => ∃ i : Nat, i ≤ n ∧ vi = .int .i64 i ∧ Own wr g n cap (mix (i * 7) (driftS h S) S) ∧ Touch g w wr) (fun vi _ => n - (intOf vi).toNat)
  case atStart => exact ⟨0, Nat.zero_le _, rfl, HO.out.congr (fun j _ => mix_ge (by omega)), Touch.refl _ _⟩
  case round =>
    obtain ⟨i, hi, rfl, hw, ht⟩ := hrel
    have HW := Lib.hid hw
    have HT := Lib.hid ht
    clear hw ht
    by_cases hin : i < n
    · obtain ⟨wo, rfl⟩ : ∃ wo : World, wo = wr := ⟨_, rfl⟩
      go_wp2
      go_loopw [11] (fun vi wr => ∃ k : Nat, k ≤ 3 ∧ vi = .int .i64 k ∧ Own wr g n cap (mix (i * 7 + 1 + k) (driftS h S) S) ∧ Touch g w wr) (fun vi _ => 3 - (intOf vi).toNat)
      case atStart => exact ⟨0, Nat.zero_le _, rfl, HW.out.congr (fun j _ => drift_start h S i j), HT.out⟩
      case round =>
        obtain ⟨k, hk, rfl, hw, ht⟩ := hrel
        have HW2 := Lib.hid hw
        have HT2 := Lib.hid ht
        clear hw ht
        by_cases hk3 : k < 3
        · have hl := HW2.out.lies
          have cx := hl (i * 7 + 1 + k) (by omega)
          have cp := hl (i * 7 + 4 + k) (by omega)
          have cm := hl (i * 7) (by omega)
          have fx := HW2.out.free (i * 7 + 1 + k)
          rw [mix_ge (by omega)] at cx cp
          rw [mix_lt (by omega), driftS_m] at cm
          rw [Nat.zero_add] at cx cp cm
          have hd := drift_ok (h := h) HK.out hin hk3 HH.out
          have HUP : Hid (upd (mix (i * 7 + 1 + k) (driftS h S) S) (i * 7 + 1 + k) (driftS h S (i * 7 + 1 + k)) = mix (i * 7 + 1 + (k + 1)) (driftS h S) S) := Lib.hid upd_mix
          obtain ⟨m, hm⟩ : ∃ m, S (i * 7) = m := ⟨_, rfl⟩
          obtain ⟨x, hx⟩ : ∃ x, S (i * 7 + 1 + k) = x := ⟨_, rfl⟩
          obtain ⟨p, hp⟩ : ∃ p, S (i * 7 + 4 + k) = p := ⟨_, rfl⟩
          obtain ⟨Y, hY⟩ : ∃ Y, driftS h S (i * 7 + 1 + k) = Y := ⟨_, rfl⟩
          rw [hm, hx, hp, hY] at hd
          rw [hm] at cm
          rw [hx] at cx
          rw [hp] at cp
          rw [hY] at HUP
          obtain ⟨e2, hq, hf, hb, e3, e4⟩ := hd
          have hr := fun u => roundP_any hf hb u
          have hq := run_fv hq
          clear hl hm hx hp hY hf hb
          obtain ⟨M2, hM2⟩ : ∃ M2, 2 * m = M2 := ⟨_, rfl⟩
          obtain ⟨F1, hF1⟩ : ∃ F1, floatOfInt .f64 p = F1 := ⟨_, rfl⟩
          have hF1' : iw p = F1 := hF1
          rw [hM2] at e2 e3 e4 hr hq
          obtain ⟨F2, hF2⟩ : ∃ F2, floatOfInt .f64 M2 = F2 := ⟨_, rfl⟩
          have hF2' : iw M2 = F2 := hF2
          rw [hF1', hF2'] at e3 e4 hr hq
          clear hF1' hF2'
          obtain ⟨Q, hQ⟩ : ∃ Q, fv .quo F1 F2 = Q := ⟨_, rfl⟩
          rw [hQ] at e3 e4 hr hq
          obtain ⟨r, hr'⟩ : ∃ r, rN (V Q) = r := ⟨_, rfl⟩
          rw [hr'] at e3 e4 hr
          obtain ⟨D, hD⟩ : ∃ D, h * r = D := ⟨_, rfl⟩
          rw [hD] at e3 e4
          clear hQ hr'
          have HR := Lib.hid hr
          clear hr
          go_wp2
          go_still_tail 30, (by kernel_rfl)
          still_call ((HR.out _).mono fun _ _ h => ⟨h.1, h.2.symm⟩)
          repeat still_step
          refine wpStill_nil ?_
          change wpList _ _ _ _ _ wr.drew
          go_wp2
          go_roundw
          case rel => exact ⟨k + 1, by omega, by go_num, by rw [← HUP.out]; exact (HW2.out.drewN 1).set _ _, (HT2.out.drewN 1).set _ _⟩
          case measure => first | (simp [intOf]; done) | (simp [intOf]; omega)
        · have hk4 : k = 3 := by omega
          subst hk4
          go_wp2
          go_roundw
          case rel => exact ⟨i + 1, by omega, by go_num, HW2.out.congr (fun j _ => drift_end h S i j), HT2.out⟩
          case measure => first | (simp [intOf]; done) | (simp [intOf]; omega)
    · have hin2 : i = n := by omega
      subst hin2
      go_wp2
      go_end0
      exact ⟨rfl, HW.out.congr (fun j hj => (mix_lt hj).symm), HT.out⟩

set_option maxHeartbeats 1000000 in
theorem driftR_any (g n cap : Nat) (S : Nat → Int) (h : Int) (w : World) (ho : Own w g n cap S) (hn : n ≤ 8) (hok : okAll n S) (hh : h = 1 ∨ h = -1) :
    Calls Try.prog 28 #[.slice (some ⟨g, 0, none⟩) n cap, .int .i64 h] w fun e w' => e = .returned (.tuple #[]) ∧ Own w' g n cap (driftS h S) ∧ Touch g w w' := by
  have HO := Lib.hid ho
  have HK := Lib.hid hok
  have HH := Lib.hid hh
  clear ho hok hh
  go_enter Try.func28, Try.ntmps28
  go_wp2
  go_loopw [4] (fun vi wr => ∃ i : Nat, i ≤ n ∧ vi = .int .i64 i ∧ Own wr g n cap (mix (i * 7) (driftS h S) S) ∧ Touch g w wr) (fun vi _ => n - (intOf vi).toNat)
  case atStart => exact ⟨0, Nat.zero_le _, rfl, HO.out.congr (fun j _ => mix_ge (by omega)), Touch.refl _ _⟩
  case round =>
    obtain ⟨i, hi, rfl, hw, ht⟩ := hrel
    have HW := Lib.hid hw
    have HT := Lib.hid ht
    clear hw ht
    by_cases hin : i < n
    · obtain ⟨wo, rfl⟩ : ∃ wo : World, wo = wr := ⟨_, rfl⟩
      go_wp2
      go_loopw [5] (fun vi wr => ∃ k : Nat, k ≤ 3 ∧ vi = .int .i64 k ∧ Own wr g n cap (mix (i * 7 + 1 + k) (driftS h S) S) ∧ Touch g w wr) (fun vi _ => 3 - (intOf vi).toNat)
      case atStart => exact ⟨0, Nat.zero_le _, rfl, HW.out.congr (fun j _ => drift_start h S i j), HT.out⟩
      case round =>
        obtain ⟨k, hk, rfl, hw, ht⟩ := hrel
        have HW2 := Lib.hid hw
        have HT2 := Lib.hid ht
        clear hw ht
        by_cases hk3 : k < 3
        · have hl := HW2.out.lies
          have cx := hl (i * 7 + 1 + k) (by omega)
          have cp := hl (i * 7 + 4 + k) (by omega)
          have cm := hl (i * 7) (by omega)
          have fx := HW2.out.free (i * 7 + 1 + k)
          rw [mix_ge (by omega)] at cx cp
          rw [mix_lt (by omega), driftS_m] at cm
          rw [Nat.zero_add] at cx cp cm
          have hd := drift_ok (h := h) HK.out hin hk3 HH.out
          have HUP : Hid (upd (mix (i * 7 + 1 + k) (driftS h S) S) (i * 7 + 1 + k) (driftS h S (i * 7 + 1 + k)) = mix (i * 7 + 1 + (k + 1)) (driftS h S) S) := Lib.hid upd_mix
          obtain ⟨m, hm⟩ : ∃ m, S (i * 7) = m := ⟨_, rfl⟩
          obtain ⟨x, hx⟩ : ∃ x, S (i * 7 + 1 + k) = x := ⟨_, rfl⟩
          obtain ⟨p, hp⟩ : ∃ p, S (i * 7 + 4 + k) = p := ⟨_, rfl⟩
          obtain ⟨Y, hY⟩ : ∃ Y, driftS h S (i * 7 + 1 + k) = Y := ⟨_, rfl⟩
          rw [hm, hx, hp, hY] at hd
          rw [hm] at cm
          rw [hx] at cx
          rw [hp] at cp
          rw [hY] at HUP
          obtain ⟨e2, hq, hf, hb, e3, e4⟩ := hd
          have hr := fun u => roundR_any hf hb u
          have hq := run_fv hq
          clear hl hm hx hp hY hf hb
          obtain ⟨M2, hM2⟩ : ∃ M2, 2 * m = M2 := ⟨_, rfl⟩
          obtain ⟨F1, hF1⟩ : ∃ F1, floatOfInt .f64 p = F1 := ⟨_, rfl⟩
          have hF1' : iw p = F1 := hF1
          rw [hM2] at e2 e3 e4 hr hq
          obtain ⟨F2, hF2⟩ : ∃ F2, floatOfInt .f64 M2 = F2 := ⟨_, rfl⟩
          have hF2' : iw M2 = F2 := hF2
          rw [hF1', hF2'] at e3 e4 hr hq
          clear hF1' hF2'
          obtain ⟨Q, hQ⟩ : ∃ Q, fv .quo F1 F2 = Q := ⟨_, rfl⟩
          rw [hQ] at e3 e4 hr hq
          obtain ⟨r, hr'⟩ : ∃ r, rN (V Q) = r := ⟨_, rfl⟩
          rw [hr'] at e3 e4 hr
          obtain ⟨D, hD⟩ : ∃ D, h * r = D := ⟨_, rfl⟩
          rw [hD] at e3 e4
          clear hQ hr'
          have HR := Lib.hid hr
          clear hr
          go_wp2
          go_still_tail 30, (by kernel_rfl)
          still_call ((HR.out _).mono fun _ _ h => ⟨h.1, h.2.symm⟩)
          repeat still_step
          refine wpStill_nil ?_
          change wpList _ _ _ _ _ wr.drew
          go_wp2
          go_roundw
          case rel => exact ⟨k + 1, by omega, by go_num, by rw [← HUP.out]; exact (HW2.out.drewN 1).set _ _, (HT2.out.drewN 1).set _ _⟩
          case measure => first | (simp [intOf]; done) | (simp [intOf]; omega)
        · have hk4 : k = 3 := by omega
          subst hk4
          go_wp2
          go_roundw
          case rel => exact ⟨i + 1, by omega, by go_num, HW2.out.congr (fun j _ => drift_end h S i j), HT2.out⟩
          case measure => first | (simp [intOf]; done) | (simp [intOf]; omega)
    · have hin2 : i = n := by omega
      subst hin2
      go_wp2
      go_end0
      exact ⟨rfl, HW.out.congr (fun j hj => (mix_lt hj).symm), HT.out⟩
end Go.Proofs.Ytjapohjfheielaa
