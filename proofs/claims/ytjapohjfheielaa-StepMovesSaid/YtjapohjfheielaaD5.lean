/- Plain law: lists with all places moved, or one axis turned about. Conditions: numbers of 64 bits. -/
import Derived.Test.YtjapohjfheielaaD4
namespace Go.Proofs.Ytjapohjfheielaa
open Go.RowKit

def three (y0 y1 y2 : Int) : Nat → Int := fun c => if c = 0 then y0 else if c = 1 then y1 else y2
def movS (m : Nat → Int) (S : Nat → Int) : Nat → Int := fun e => if 1 ≤ e % 7 ∧ e % 7 ≤ 3 then S e + m (e % 7 - 1) else S e
theorem movS_m (m S : Nat → Int) (i : Nat) : movS m S (i * 7) = S (i * 7) := by unfold movS; rw [if_neg (by omega)]
theorem movS_x (m S : Nat → Int) (i c : Nat) (hc : c < 3) : movS m S (i * 7 + 1 + c) = S (i * 7 + 1 + c) + m c := by
  unfold movS; rw [if_pos (by omega), show (i * 7 + 1 + c) % 7 - 1 = c from by omega]
theorem movS_p (m S : Nat → Int) (i c : Nat) (hc : c < 3) : movS m S (i * 7 + 4 + c) = S (i * 7 + 4 + c) := by unfold movS; rw [if_neg (by omega)]
theorem movS_moved (m S : Nat → Int) (n : Nat) : Moved m n S (movS m S) := fun i _ => ⟨movS_m m S i, fun c hc => by
  rw [← Nat.add_assoc, ← Nat.add_assoc]; exact ⟨movS_x m S i c hc, movS_p m S i c hc⟩⟩
theorem mov_start (m S : Nat → Int) (i j : Nat) : mix (i * 7 + 1 + 0) (movS m S) S j = mix (i * 7) (movS m S) S j := by
  unfold mix
  by_cases h1 : j < i * 7
  · rw [if_pos (by omega), if_pos h1]
  · rw [if_neg h1]
    by_cases h2 : j = i * 7
    · subst h2; rw [if_pos (by omega), movS_m]
    · rw [if_neg (by omega)]
theorem mov_end (m S : Nat → Int) (i j : Nat) : mix ((i + 1) * 7) (movS m S) S j = mix (i * 7 + 1 + 3) (movS m S) S j := by
  unfold mix
  by_cases h1 : j < i * 7 + 1 + 3
  · rw [if_pos (by omega), if_pos h1]
  · rw [if_neg h1]
    by_cases h2 : j < (i + 1) * 7
    · rw [if_pos h2]; unfold movS; rw [if_neg (by omega)]
    · rw [if_neg h2]

def turS (κ : Nat) (S : Nat → Int) : Nat → Int := fun e => if e % 7 = 1 + κ ∨ e % 7 = 4 + κ then wrap64 (-S e) else S e
theorem tur_step (κ : Nat) (hκ : κ < 3) (S : Nat → Int) (i e : Nat) :
    mix ((i + 1) * 7) (turS κ S) S e = upd (upd (mix (i * 7) (turS κ S) S) (i * 7 + 1 + κ) (wrap64 (-S (i * 7 + 1 + κ)))) (i * 7 + 4 + κ) (wrap64 (-S (i * 7 + 4 + κ))) e := by
  unfold upd mix
  by_cases h1 : e = i * 7 + 4 + κ
  · rw [if_pos h1, if_pos (by omega)]
    unfold turS
    rw [if_pos (by omega), h1]
  · rw [if_neg h1]
    by_cases h2 : e = i * 7 + 1 + κ
    · rw [if_pos h2, if_pos (by omega)]
      unfold turS
      rw [if_pos (by omega), h2]
    · rw [if_neg h2]
      by_cases h3 : e < i * 7
      · rw [if_pos h3, if_pos (by omega)]
      · rw [if_neg h3]
        by_cases h4 : e < (i + 1) * 7
        · rw [if_pos h4]; unfold turS; rw [if_neg (by omega)]
        · rw [if_neg h4]
theorem neg_wrap {z : Int} (h : -9223372036854775807 ≤ z ∧ z ≤ 9223372036854775807) : wrap64 (-z) = -z := IntWalk.wrap64_in _ (by omega)
theorem neg_min : wrap64 (-(-9223372036854775808 : Int)) = -9223372036854775808 := by decide +kernel
theorem okX_neg {z : Int} (h : -9223372036854775808 ≤ z ∧ z ≤ 9223372036854775807) : okX (wrap64 (-z)) ↔ okX z := by
  by_cases hm : z = -9223372036854775808
  · rw [hm, neg_min]
  · rw [neg_wrap (by omega)]; unfold okX; omega
theorem okP_neg {z : Int} (h : -9223372036854775808 ≤ z ∧ z ≤ 9223372036854775807) : okP (wrap64 (-z)) ↔ okP z := by
  by_cases hm : z = -9223372036854775808
  · rw [hm, neg_min]
  · rw [neg_wrap (by omega)]; unfold okP; omega
theorem tur_chk {κ n : Nat} (hκ : κ < 3) {S : Nat → Int} (hS : ∀ e, e < n * 7 → -9223372036854775808 ≤ S e ∧ S e ≤ 9223372036854775807) : chk n (turS κ S) = chk n S := by
  have key : ∀ i, i < n → (okM (turS κ S) i ↔ okM S i) := fun i hi => by
    have h0 : turS κ S (i * 7) = S (i * 7) := by unfold turS; rw [if_neg (by omega)]
    have hx : ∀ c, c < 3 → (okX (turS κ S (i * 7 + 1 + c)) ↔ okX (S (i * 7 + 1 + c))) := fun c hc => by
      unfold turS
      by_cases h : (i * 7 + 1 + c) % 7 = 1 + κ ∨ (i * 7 + 1 + c) % 7 = 4 + κ
      · rw [if_pos h]; exact okX_neg (hS _ (by omega))
      · rw [if_neg h]
    have hp : ∀ c, c < 3 → (okP (turS κ S (i * 7 + 4 + c)) ↔ okP (S (i * 7 + 4 + c))) := fun c hc => by
      unfold turS
      by_cases h : (i * 7 + 4 + c) % 7 = 1 + κ ∨ (i * 7 + 4 + c) % 7 = 4 + κ
      · rw [if_pos h]; exact okP_neg (hS _ (by omega))
      · rw [if_neg h]
    unfold okM
    rw [h0]
    constructor
    · rintro ⟨a, b⟩; exact ⟨a, fun k hk => ⟨(hx k hk).1 (b k hk).1, (hp k hk).1 (b k hk).2⟩⟩
    · rintro ⟨a, b⟩; exact ⟨a, fun k hk => ⟨(hx k hk).2 (b k hk).1, (hp k hk).2 (b k hk).2⟩⟩
  unfold chk
  by_cases h8 : 8 < n
  · rw [if_pos h8, if_pos h8]
  · rw [if_neg h8, if_neg h8]
    by_cases hk : okAll n S
    · rw [if_pos hk, if_pos (show okAll n (turS κ S) from fun i hi => (key i hi).2 (hk i hi))]
    · rw [if_neg hk, if_neg (show ¬ okAll n (turS κ S) from fun e => hk (fun i hi => (key i hi).1 (e i hi)))]
theorem tur_turned {κ n : Nat} (hκ : κ < 3) {S : Nat → Int} (h : chk n S = 0) : Turned κ n S (turS κ S) := by
  obtain ⟨_, hok⟩ := chk_zero.1 h
  intro i hi
  refine ⟨by unfold turS; rw [if_neg (by omega)], fun c hc => ?_⟩
  obtain ⟨hx, hp⟩ := (hok i hi).2 c hc
  unfold okX at hx
  unfold okP at hp
  rw [Nat.add_assoc] at hx hp
  unfold turS flip
  constructor
  · by_cases hc2 : c = κ
    · rw [if_pos (by omega), if_pos hc2]; exact neg_wrap (by omega)
    · rw [if_neg (by omega), if_neg hc2]
  · by_cases hc2 : c = κ
    · rw [if_pos (by omega), if_pos hc2]; exact neg_wrap (by omega)
    · rw [if_neg (by omega), if_neg hc2]
end Go.Proofs.Ytjapohjfheielaa
