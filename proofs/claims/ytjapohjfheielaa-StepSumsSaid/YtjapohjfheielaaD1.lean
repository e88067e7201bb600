/- Plain law: a kick, in whole numbers: all pairs in their order, and as one sum for each mass. Conditions: none. -/
import Derived.Test.YtjapohjfheielaaA4
import Derived.Test.YtjapohjfheielaaC0
namespace Go.Proofs.Ytjapohjfheielaa

/-! ### sums -/
def sumTo : Nat → (Nat → Int) → Int
  | 0, _ => 0
  | n + 1, F => sumTo n F + F n
theorem sumTo_congr {n : Nat} {F G : Nat → Int} (h : ∀ b, b < n → F b = G b) : sumTo n F = sumTo n G := by
  induction n with
  | zero => rfl
  | succ n ih => unfold sumTo; rw [ih (fun b hb => h b (by omega)), h n (by omega)]
theorem sumTo_one {n j : Nat} {F G : Nat → Int} (hj : j < n) (h : ∀ b, b < n → b ≠ j → F b = G b) : sumTo n F = sumTo n G + (F j - G j) := by
  induction n with
  | zero => omega
  | succ n ih =>
    unfold sumTo
    by_cases hjn : j = n
    · subst hjn
      rw [sumTo_congr (F := F) (G := G) (fun b hb => h b (by omega) (by omega))]; omega
    · rw [ih (by omega) (fun b hb hne => h b (by omega) hne), h n (by omega) (by omega)]; omega
theorem sumTo_zero {n : Nat} {F : Nat → Int} (h : ∀ b, b < n → F b = 0) : sumTo n F = 0 := by
  induction n with
  | zero => rfl
  | succ n ih => unfold sumTo; rw [ih (fun b hb => h b (by omega)), h n (by omega)]; rfl
theorem sumTo_abs {n B : Nat} {F : Nat → Int} (h : ∀ b, b < n → (F b).natAbs ≤ B) : (sumTo n F).natAbs ≤ n * B := by
  induction n with
  | zero => simp [sumTo]
  | succ n ih =>
    unfold sumTo
    have h1 := ih (fun b hb => h b (by omega))
    have h2 := h n (by omega)
    rw [Nat.add_mul, Nat.one_mul]
    omega
theorem sumTo_neg (n : Nat) (F : Nat → Int) : sumTo n (fun b => -F b) = -sumTo n F := by
  induction n with
  | zero => rfl
  | succ n ih => show sumTo n _ + -F n = -(sumTo n F + F n); rw [ih]; omega
theorem sumTo_add (n : Nat) (F G : Nat → Int) : sumTo n (fun b => F b + G b) = sumTo n F + sumTo n G := by
  induction n with
  | zero => rfl
  | succ n ih => show sumTo n _ + (F n + G n) = sumTo n F + F n + (sumTo n G + G n); rw [ih]; omega
theorem sumTo_mul (n : Nat) (h : Int) (F : Nat → Int) : sumTo n (fun b => h * F b) = h * sumTo n F := by
  induction n with
  | zero => simp [sumTo]
  | succ n ih => unfold sumTo; rw [ih, Int.mul_add]
theorem sumTo_swap (n m : Nat) (F : Nat → Nat → Int) : sumTo n (fun a => sumTo m (fun b => F a b)) = sumTo m (fun b => sumTo n (fun a => F a b)) := by
  induction n with
  | zero => exact (sumTo_zero (fun _ _ => rfl)).symm
  | succ n ih =>
    show sumTo n _ + _ = sumTo m (fun b => sumTo n (fun a => F a b) + F n b)
    rw [ih, sumTo_add]

/-! ### the pull of b at a -/
def fr (g : Nat) (S : Nat → Int) (a b c : Nat) : Int := pk g (S (a * 7) * S (b * 7)) (S (b * 7 + 1) - S (a * 7 + 1)) (S (b * 7 + 2) - S (a * 7 + 2)) (S (b * 7 + 3) - S (a * 7 + 3)) (S (b * 7 + 1 + c) - S (a * 7 + 1 + c))
theorem fr_anti (g : Nat) (S : Nat → Int) (a b c : Nat) : fr g S b a c = -fr g S a b c := by
  unfold fr
  rw [Int.mul_comm (S (b * 7)), show S (a * 7 + 1) - S (b * 7 + 1) = -(S (b * 7 + 1) - S (a * 7 + 1)) from by omega, show S (a * 7 + 2) - S (b * 7 + 2) = -(S (b * 7 + 2) - S (a * 7 + 2)) from by omega,
    show S (a * 7 + 3) - S (b * 7 + 3) = -(S (b * 7 + 3) - S (a * 7 + 3)) from by omega, show S (a * 7 + 1 + c) - S (b * 7 + 1 + c) = -(S (b * 7 + 1 + c) - S (a * 7 + 1 + c)) from by omega,
    pk_odd, pk_even0, pk_even1, pk_even2]
theorem fr_self (g : Nat) (S : Nat → Int) (a c : Nat) : fr g S a a c = 0 := by have := fr_anti g S a a c; omega
theorem fr_le (g : Nat) (S : Nat → Int) (a b c : Nat) : (fr g S a b c).natAbs ≤ 8589934593 := pk_le ..

attribute [local irreducible] fr pk

/-! ### the kick, pair by pair -/
/-- has the pair of a and b been, in its number c, when the loops stand at i, j, k? -/
def been (i j k a b c : Nat) : Prop := a ≠ b ∧ (min a b < i ∨ (min a b = i ∧ (max a b < j ∨ (max a b = j ∧ c < k))))
instance (i j k a b c : Nat) : Decidable (been i j k a b c) := by unfold been; exact inferInstance
def part (g n : Nat) (S : Nat → Int) (i j k a c : Nat) : Int := sumTo n (fun b => if been i j k a b c then fr g S a b c else 0)
def kickAt (g : Nat) (h : Int) (n : Nat) (S : Nat → Int) (i j k : Nat) : Nat → Int := fun e => if 4 ≤ e % 7 then S e + h * part g n S i j k (e / 7) (e % 7 - 4) else S e
def kickS (g : Nat) (h : Int) (n : Nat) (S : Nat → Int) : Nat → Int := fun e => if 4 ≤ e % 7 then S e + h * sumTo n (fun b => fr g S (e / 7) b (e % 7 - 4)) else S e

theorem part_le (g n : Nat) (S : Nat → Int) (i j k a c : Nat) : (part g n S i j k a c).natAbs ≤ n * 8589934593 := by
  refine sumTo_abs (fun b _ => ?_)
  split
  · exact fr_le ..
  · exact Nat.zero_le _
theorem kickAt_low (g : Nat) (h : Int) (n : Nat) (S : Nat → Int) (i j k a t : Nat) (ht : t < 4) : kickAt g h n S i j k (a * 7 + t) = S (a * 7 + t) := by
  unfold kickAt; rw [if_neg (by omega)]
theorem kickAt_p (g : Nat) (h : Int) (n : Nat) (S : Nat → Int) (i j k a c : Nat) (hc : c < 3) : kickAt g h n S i j k (a * 7 + 4 + c) = S (a * 7 + 4 + c) + h * part g n S i j k a c := by
  unfold kickAt; rw [if_pos (by omega), show (a * 7 + 4 + c) / 7 = a from by omega, show (a * 7 + 4 + c) % 7 - 4 = c from by omega]
theorem part_congr {g n : Nat} {S : Nat → Int} {i j k i' j' k' a c : Nat} (h : ∀ b, b < n → (been i j k a b c ↔ been i' j' k' a b c)) : part g n S i j k a c = part g n S i' j' k' a c := by
  refine sumTo_congr (fun b hb => ?_)
  by_cases h1 : been i j k a b c
  · rw [if_pos h1, if_pos ((h b hb).1 h1)]
  · rw [if_neg h1, if_neg (fun h2 => h1 ((h b hb).2 h2))]
theorem kickAt_congr {g n : Nat} {h : Int} {S : Nat → Int} {i j k i' j' k' : Nat} (hb : ∀ a b c, a < n → b < n → c < 3 → (been i j k a b c ↔ been i' j' k' a b c)) {e : Nat} (he : e < n * 7) : kickAt g h n S i j k e = kickAt g h n S i' j' k' e := by
  unfold kickAt
  by_cases h4 : 4 ≤ e % 7
  · rw [if_pos h4, if_pos h4, part_congr (fun b hbn => hb _ _ _ (by omega) hbn (by omega))]
  · rw [if_neg h4, if_neg h4]
theorem kick_start {g n : Nat} {h : Int} {S : Nat → Int} {e : Nat} : kickAt g h n S 0 1 0 e = S e := by
  unfold kickAt
  split
  · have : part g n S 0 1 0 (e / 7) (e % 7 - 4) = 0 := by
      refine sumTo_zero (fun b hb => ?_)
      rw [if_neg]
      unfold been
      omega
    rw [this]; simp
  · rfl
theorem kick_next {g n : Nat} {h : Int} {S : Nat → Int} {i j e : Nat} (he : e < n * 7) : kickAt g h n S i (j + 1) 0 e = kickAt g h n S i j 3 e :=
  kickAt_congr (fun a b c ha hb hc => by unfold been; omega) he
theorem kick_row {g n : Nat} {h : Int} {S : Nat → Int} {i e : Nat} (he : e < n * 7) : kickAt g h n S (i + 1) (i + 1 + 1) 0 e = kickAt g h n S i n 0 e :=
  kickAt_congr (fun a b c ha hb hc => by unfold been; omega) he
theorem kick_end {g n : Nat} {h : Int} {S : Nat → Int} {j e : Nat} : kickAt g h n S n j 0 e = kickS g h n S e := by
  unfold kickAt kickS
  by_cases h4 : 4 ≤ e % 7
  · rw [if_pos h4, if_pos h4]
    congr 2
    refine sumTo_congr (fun b hb => ?_)
    by_cases hab : e / 7 = b
    · rw [if_neg (fun h => h.1 hab), ← hab, fr_self]
    · rw [if_pos]
      unfold been; omega
  · rw [if_neg h4, if_neg h4]

/-- one number of one pair -/
theorem kick_step {g n : Nat} {h : Int} {S : Nat → Int} {i j k : Nat} (hij : i < j) (hj : j < n) (hk : k < 3) (e : Nat) :
    upd (upd (kickAt g h n S i j k) (i * 7 + 4 + k) (kickAt g h n S i j k (i * 7 + 4 + k) + h * fr g S i j k)) (j * 7 + 4 + k) (kickAt g h n S i j k (j * 7 + 4 + k) - h * fr g S i j k) e = kickAt g h n S i j (k + 1) e := by
  have hi : part g n S i j (k + 1) i k = part g n S i j k i k + fr g S i j k := by
    unfold part
    rw [sumTo_one (G := fun b => if been i j k i b k then fr g S i b k else 0) hj (fun b hb hne => ?_)]
    · have h1 : been i j (k + 1) i j k := by unfold been; omega
      have h2 : ¬ been i j k i j k := by unfold been; omega
      rw [if_pos h1, if_neg h2]; omega
    · have : been i j (k + 1) i b k ↔ been i j k i b k := by unfold been; omega
      by_cases h1 : been i j k i b k
      · rw [if_pos h1, if_pos (this.2 h1)]
      · rw [if_neg h1, if_neg (fun h2 => h1 (this.1 h2))]
  have hj' : part g n S i j (k + 1) j k = part g n S i j k j k - fr g S i j k := by
    unfold part
    rw [sumTo_one (G := fun b => if been i j k j b k then fr g S j b k else 0) (show i < n by omega) (fun b hb hne => ?_)]
    · have h1 : been i j (k + 1) j i k := by unfold been; omega
      have h2 : ¬ been i j k j i k := by unfold been; omega
      rw [if_pos h1, if_neg h2, fr_anti]; omega
    · have : been i j (k + 1) j b k ↔ been i j k j b k := by unfold been; omega
      by_cases h1 : been i j k j b k
      · rw [if_pos h1, if_pos (this.2 h1)]
      · rw [if_neg h1, if_neg (fun h2 => h1 (this.1 h2))]
  unfold upd
  by_cases h1 : e = j * 7 + 4 + k
  · rw [if_pos h1, h1, kickAt_p _ _ _ _ _ _ _ _ _ hk, kickAt_p _ _ _ _ _ _ _ _ _ hk, hj', Int.mul_sub]; omega
  · rw [if_neg h1]
    by_cases h2 : e = i * 7 + 4 + k
    · rw [if_pos h2, h2, kickAt_p _ _ _ _ _ _ _ _ _ hk, kickAt_p _ _ _ _ _ _ _ _ _ hk, hi, Int.mul_add]; omega
    · rw [if_neg h2]
      unfold kickAt
      by_cases h4 : 4 ≤ e % 7
      · rw [if_pos h4, if_pos h4]
        congr 2
        refine part_congr (fun b hb => ?_)
        unfold been; omega
      · rw [if_neg h4, if_neg h4]
theorem kick_bound {g n : Nat} {h : Int} {S : Nat → Int} {i j k a c : Nat} (hn : n ≤ 8) (hh : h = 1 ∨ h = -1) (hok : okAll n S) (ha : a < n) (hc : c < 3) : (kickAt g h n S i j k (a * 7 + 4 + c)).natAbs ≤ 1125968626319368 := by
  rw [kickAt_p _ _ _ _ _ _ _ _ _ hc]
  have h1 := part_le g n S i j k a c
  have h2 := ((hok a ha).2 c hc).2
  have h3 : n * 8589934593 ≤ 68719476744 := by omega
  have h4 : (h * part g n S i j k a c).natAbs ≤ 68719476744 := by
    rcases hh with rfl | rfl
    · rw [Int.one_mul]; omega
    · rw [Int.neg_mul, Int.one_mul, Int.natAbs_neg]; omega
  have h5 := h2.1
  have h6 := h2.2
  omega
end Go.Proofs.Ytjapohjfheielaa
