/- Walks: a product more. Conditions: fit words. -/
import Derived.Test.YtlegkefonpiakaaK5
namespace Go.Proofs.Ytlegkefonpiakaa
open Go.RowKit
open Ieee (FinW V dR big double wordOf deepD)

/-- a product of fit numbers in units of 2^-1024 -/
def aQ (r s : Nat) : Nat := mM r * mM s * 2 ^ (r / 4503599627370496 + s / 4503599627370496 - 1126)
def aW (x y : Nat) : Int := if (decide (V x < 0) != decide (V y < 0)) = true then -(aQ (rg x) (rg y) : Int) else (aQ (rg x) (rg y) : Int)
theorem aW_zero {x y : Nat} (h : rg x = 0 ∨ rg y = 0) : aW x y = 0 := by
  have : aQ (rg x) (rg y) = 0 := by
    unfold aQ
    rcases h with h | h <;> rw [h]
    · show 0 * _ * _ = 0; rw [Nat.zero_mul, Nat.zero_mul]
    · show _ * 0 * _ = 0; rw [Nat.mul_zero, Nat.zero_mul]
  unfold aW; rw [this]; split <;> rfl
theorem aQ_V {x y : Nat} (hx : fitB x = true) (hy : fitB y = true) : aQ (rg x) (rg y) * 2 ^ 1124 = (V x).natAbs * (V y).natAbs := by
  rw [aP_V hx, aP_V hy]
  by_cases h0 : rg x = 0 ∨ rg y = 0
  · unfold aQ aP
    rcases h0 with h | h <;> rw [h]
    · have : mM 0 = 0 := rfl
      rw [this]; simp only [Nat.zero_mul]
    · have : mM 0 = 0 := rfl
      rw [this]; simp only [Nat.zero_mul, Nat.mul_zero]
  · obtain ⟨p1, p2⟩ : 823 ≤ rg x / 4503599627370496 ∧ rg x / 4503599627370496 ≤ 1223 := by
      rcases fit_range hx with h | h
      · exact absurd (Or.inl h) h0
      · exact h
    obtain ⟨q1, q2⟩ : 823 ≤ rg y / 4503599627370496 ∧ rg y / 4503599627370496 ≤ 1223 := by
      rcases fit_range hy with h | h
      · exact absurd (Or.inr h) h0
      · exact h
    unfold aQ aP
    generalize rg x / 4503599627370496 = p at *
    generalize rg y / 4503599627370496 = q at *
    generalize mM (rg x) = m
    generalize mM (rg y) = n
    have e : ∀ u v s t : Nat, m * u * s * (n * v * t) = m * n * (u * s * (v * t)) := fun u v s t => by
      simp only [Nat.mul_assoc, Nat.mul_left_comm]
    have key : ∀ c d s : Nat, s + c = p - 51 + d + (q - 51 + d) → m * n * 2 ^ s * 2 ^ c = m * 2 ^ (p - 51) * 2 ^ d * (n * 2 ^ (q - 51) * 2 ^ d) := by
      intro c d s h
      rw [e, ← Nat.pow_add, ← Nat.pow_add, ← Nat.pow_add, Nat.mul_assoc, ← Nat.pow_add, h]
    exact key 1124 50 (p + q - 1126) (by omega)
theorem aW_V {x y : Nat} (wx : x < 18446744073709551616) (wy : y < 18446744073709551616) (hx : fitB x = true) (hy : fitB y = true) : aW x y * 2 ^ 50 = pV x y := by
  obtain ⟨_, _, _, _, _, h⟩ := prod_V wx wy hx hy
  have hq := aQ_V hx hy
  have h1124 : ∃ K : Nat, K = 1124 := ⟨_, rfl⟩
  obtain ⟨K, hK⟩ := h1124
  rw [← hK] at hq
  have hs : aW x y * 2 ^ K = V x * V y := by
    have hn : ((aQ (rg x) (rg y) : Nat) : Int) * 2 ^ K = ((V x).natAbs * (V y).natAbs : Nat) := by
      rw [← hq, Int.natCast_mul, Int.natCast_pow]; rfl
    have hab : ∀ (a b : Int), (if (decide (a < 0) != decide (b < 0)) = true then -((a.natAbs * b.natAbs : Nat) : Int) else ((a.natAbs * b.natAbs : Nat) : Int)) = a * b := by
      intro a b
      rw [Int.natCast_mul]
      rcases Int.lt_or_le a 0 with h1 | h1 <;> rcases Int.lt_or_le b 0 with h2 | h2
      · rw [if_neg (by simp [h1, h2]), Int.ofNat_natAbs_of_nonpos (by omega), Int.ofNat_natAbs_of_nonpos (by omega), Int.neg_mul_neg]
      · rw [if_pos (by simp [h1, Int.not_lt.2 h2]), Int.ofNat_natAbs_of_nonpos (by omega), Int.natAbs_of_nonneg h2, Int.neg_mul, Int.neg_neg]
      · rw [if_pos (by simp [h2, Int.not_lt.2 h1]), Int.ofNat_natAbs_of_nonpos (a := b) (by omega), Int.natAbs_of_nonneg h1, Int.mul_neg, Int.neg_neg]
      · rw [if_neg (by simp [Int.not_lt.2 h1, Int.not_lt.2 h2]), Int.natAbs_of_nonneg h1, Int.natAbs_of_nonneg h2]
    rw [← hab (V x) (V y), ← hn]
    unfold aW
    split
    · rw [Int.neg_mul]
    · rfl
  have e : (2 : Int) ^ K = 2 ^ 50 * 2 ^ deepD := by rw [← Int.pow_add, hK]; rfl
  rw [e, ← Int.mul_assoc, ← h] at hs
  exact Int.eq_of_mul_eq_mul_right (Int.ne_of_gt (Int.pow_pos (by omega))) hs
theorem two_puts (m n W k : Nat) (v : Int) (b : Bool) :
    (if b then (if b then v - ((m * n % 18446744073709551616 * 2 ^ (64 * W + k) : Nat) : Int) else v + ((m * n % 18446744073709551616 * 2 ^ (64 * W + k) : Nat) : Int)) - ((m * n / 18446744073709551616 * 2 ^ (64 * (W + 1) + k) : Nat) : Int)
      else (if b then v - ((m * n % 18446744073709551616 * 2 ^ (64 * W + k) : Nat) : Int) else v + ((m * n % 18446744073709551616 * 2 ^ (64 * W + k) : Nat) : Int)) + ((m * n / 18446744073709551616 * 2 ^ (64 * (W + 1) + k) : Nat) : Int)) =
      if b then v - ((m * n * 2 ^ (64 * W + k) : Nat) : Int) else v + ((m * n * 2 ^ (64 * W + k) : Nat) : Int) := by
  have e : m * n * 2 ^ (64 * W + k) = m * n % 18446744073709551616 * 2 ^ (64 * W + k) + m * n / 18446744073709551616 * 2 ^ (64 * (W + 1) + k) := by
    have h := Nat.mod_add_div (m * n) 18446744073709551616
    generalize m * n % 18446744073709551616 = a at *
    generalize m * n / 18446744073709551616 = c at *
    rw [← h, show 64 * (W + 1) + k = (64 * W + k) + 64 from by omega, Nat.pow_add _ _ 64, Nat.add_mul]
    have e64 : (2 : Nat) ^ 64 = 18446744073709551616 := by decide
    rw [e64]
    have : 18446744073709551616 * c * 2 ^ (64 * W + k) = c * (2 ^ (64 * W + k) * 18446744073709551616) := by simp only [Nat.mul_left_comm, Nat.mul_comm]
    omega
  rw [e]
  cases b
  · simp only [if_false, Bool.false_eq_true]; omega
  · simp only [if_true]; omega

set_option maxRecDepth 20000 in
set_option maxHeartbeats 1000000 in
theorem addProd_any (g x y : Nat) (v : Int) (w : World) (ha : AccR w g (limb v)) (wx : x < 18446744073709551616) (wy : y < 18446744073709551616) (fx : fitB x = true) (fy : fitB y = true) :
    Calls Try.prog 40 #[.pointer (some ⟨g, 0, none⟩), .float .f64 x, .float .f64 y] w fun e w' => e = .returned (.tuple #[]) ∧ AccR w' g (limb (v + aW x y)) ∧ Touch g w w' := by
  have hm := fun u => mant_any x u
  have hn := fun u => mant_any y u
  by_cases h0 : rg x = 0
  · have e1 : mM (rg x) = 0 := mM_zero.2 h0
    rw [aW_zero (Or.inl h0), Int.add_zero]
    rw [e1] at hm
    obtain ⟨E, hE⟩ : ∃ E, mE (rg x) = E := ⟨_, rfl⟩
    rw [hE] at hm
    obtain ⟨n, hnn⟩ : ∃ n, mM (rg y) = n := ⟨_, rfl⟩
    obtain ⟨F, hF⟩ : ∃ F, mE (rg y) = F := ⟨_, rfl⟩
    rw [hnn, hF] at hn
    have HM := Lib.hid hm
    have HN := Lib.hid hn
    have HA := Lib.hid ha
    clear wx wy fx fy h0 e1 hE hm hn hnn hF ha
    go_enter Try.func40, Try.ntmps40
    go_wp2_with fail
    refine (HM.out _).mono ?_
    rintro e w' ⟨rfl, rfl⟩
    go_wp2_with fail
    refine (HN.out _).mono ?_
    rintro e w' ⟨rfl, rfl⟩
    go_wp2
    (try simp only [Exit.inBlock, Exit.then])
    refine bodyPost_ret (results_none rfl _ _ _) rfl ?_
    exact ⟨rfl, HA.out, Touch.refl _ _⟩
  by_cases h1 : rg y = 0
  · have e1 : mM (rg y) = 0 := mM_zero.2 h1
    have hmz : mM (rg x) ≠ 0 := fun h => h0 (mM_zero.1 h)
    rw [aW_zero (Or.inr h1), Int.add_zero]
    rw [e1] at hn
    obtain ⟨E, hE⟩ : ∃ E, mE (rg y) = E := ⟨_, rfl⟩
    rw [hE] at hn
    obtain ⟨m, hmm⟩ : ∃ n, mM (rg x) = n := ⟨_, rfl⟩
    obtain ⟨F, hF⟩ : ∃ F, mE (rg x) = F := ⟨_, rfl⟩
    rw [hmm, hF] at hm
    rw [hmm] at hmz
    have hmz1 : ((m : Int) == 0) = false := by rw [beq_eq_false_iff_ne]; omega
    have HM := Lib.hid hm
    have HN := Lib.hid hn
    have HA := Lib.hid ha
    clear wx wy fx fy h0 h1 e1 hE hm hn hmm hF ha hmz
    go_enter Try.func40, Try.ntmps40
    go_wp2_with fail
    refine (HM.out _).mono ?_
    rintro e w' ⟨rfl, rfl⟩
    go_wp2_with fail
    refine (HN.out _).mono ?_
    rintro e w' ⟨rfl, rfl⟩
    go_wp2
    (try simp only [Exit.inBlock, Exit.then])
    refine bodyPost_ret (results_none rfl _ _ _) rfl ?_
    exact ⟨rfl, HA.out, Touch.refl _ _⟩
  · have hltx := lt0_V (fit_V wx fx).1
    have hlty := lt0_V (fit_V wy fy).1
    obtain ⟨p1, p2⟩ : 823 ≤ rg x / 4503599627370496 ∧ rg x / 4503599627370496 ≤ 1223 := by
      rcases fit_range fx with h | h
      · exact absurd h h0
      · exact h
    obtain ⟨q1, q2⟩ : 823 ≤ rg y / 4503599627370496 ∧ rg y / 4503599627370496 ≤ 1223 := by
      rcases fit_range fy with h | h
      · exact absurd h h1
      · exact h
    have hmz : mM (rg x) ≠ 0 := fun h => h0 (mM_zero.1 h)
    have hnz : mM (rg y) ≠ 0 := fun h => h1 (mM_zero.1 h)
    have hmul := fun u => mul_any (mM (rg x)) (mM (rg y)) (Nat.lt_trans mM_lt (by omega)) (Nat.lt_trans mM_lt (by omega)) u
    have hhi : mM (rg x) * mM (rg y) / 18446744073709551616 < 18446744073709551616 := by
      apply Nat.div_lt_of_lt_mul
      have := Nat.mul_lt_mul'' (mM_lt (r := rg x)) (mM_lt (r := rg y))
      omega
    have hlo : mM (rg x) * mM (rg y) % 18446744073709551616 < 18446744073709551616 := Nat.mod_lt _ (by omega)
    have hE : mE (rg x) + mE (rg y) + 1024 = ((rg x / 4503599627370496 + rg y / 4503599627370496 - 1126 : Nat) : Int) := by unfold mE; rw [if_neg (by omega), if_neg (by omega)]; omega
    have hE1 : -300 ≤ mE (rg x) ∧ mE (rg x) ≤ 300 := by unfold mE; rw [if_neg (by omega)]; omega
    have hF1 : -300 ≤ mE (rg y) ∧ mE (rg y) ≤ 300 := by unfold mE; rw [if_neg (by omega)]; omega
    obtain ⟨W, k, hW, hk, hat⟩ : ∃ W k, W < 22 ∧ k < 64 ∧ rg x / 4503599627370496 + rg y / 4503599627370496 - 1126 = 64 * W + k := ⟨(rg x / 4503599627370496 + rg y / 4503599627370496 - 1126) / 64, (rg x / 4503599627370496 + rg y / 4503599627370496 - 1126) % 64, by omega, by omega, by omega⟩
    obtain ⟨bx, hbx⟩ : ∃ b, decide (V x < 0) = b := ⟨_, rfl⟩
    obtain ⟨by_, hby⟩ : ∃ b, decide (V y < 0) = b := ⟨_, rfl⟩
    rw [hbx] at hltx
    rw [hby] at hlty
    have hltx : (o64 x 0 == some .lt) = bx := hltx
    have hlty : (o64 y 0 == some .lt) = by_ := hlty
    obtain ⟨b, hb⟩ : ∃ b, (bx != by_) = b := ⟨_, rfl⟩
    have hP1 := put_any g (mM (rg x) * mM (rg y) % 18446744073709551616) W k v b w ha hlo (by omega) hk
    have hP2 := fun u (hu : AccR u g (limb (if b then v - ((mM (rg x) * mM (rg y) % 18446744073709551616 * 2 ^ (64 * W + k) : Nat) : Int) else v + ((mM (rg x) * mM (rg y) % 18446744073709551616 * 2 ^ (64 * W + k) : Nat) : Int)))) => put_any g (mM (rg x) * mM (rg y) / 18446744073709551616) (W + 1) k _ b u hu hhi (by omega) hk
    rw [two_puts] at hP2
    have hav : (if b then v - ((mM (rg x) * mM (rg y) * 2 ^ (64 * W + k) : Nat) : Int) else v + ((mM (rg x) * mM (rg y) * 2 ^ (64 * W + k) : Nat) : Int)) = v + aW x y := by
      unfold aW aQ
      rw [hat, hbx, hby, hb]
      cases b
      · rw [if_neg (by decide), if_neg (by decide)]
      · rw [if_pos rfl, if_pos rfl]; omega
    rw [hav] at hP2
    obtain ⟨R, hR⟩ : ∃ R : Int, (if b then v - ((mM (rg x) * mM (rg y) % 18446744073709551616 * 2 ^ (64 * W + k) : Nat) : Int) else v + ((mM (rg x) * mM (rg y) % 18446744073709551616 * 2 ^ (64 * W + k) : Nat) : Int)) = R := ⟨_, rfl⟩
    rw [hR] at hP1 hP2
    rw [hat] at hE
    have ha1 : mE (rg x) + mE (rg y) + 1088 = ((64 * (W + 1) + k : Nat) : Int) := by omega
    obtain ⟨A, hA⟩ : ∃ A, aW x y = A := ⟨_, rfl⟩
    rw [hA] at hP2 ⊢
    obtain ⟨m, hmm⟩ : ∃ m, mM (rg x) = m := ⟨_, rfl⟩
    obtain ⟨n, hnn⟩ : ∃ m, mM (rg y) = m := ⟨_, rfl⟩
    obtain ⟨E, hEE⟩ : ∃ E, mE (rg x) = E := ⟨_, rfl⟩
    obtain ⟨F, hFF⟩ : ∃ E, mE (rg y) = E := ⟨_, rfl⟩
    rw [hmm] at hm hmul hmz hP1 hP2
    rw [hnn] at hn hmul hnz hP1 hP2
    rw [hEE] at hm hE hE1 ha1
    rw [hFF] at hn hE hF1 ha1
    have hmz1 : ((m : Int) == 0) = false := by rw [beq_eq_false_iff_ne]; omega
    have hnz1 : ((n : Int) == 0) = false := by rw [beq_eq_false_iff_ne]; omega
    obtain ⟨lo, hlo2⟩ : ∃ a, m * n % 18446744073709551616 = a := ⟨_, rfl⟩
    obtain ⟨hi, hhi2⟩ : ∃ a, m * n / 18446744073709551616 = a := ⟨_, rfl⟩
    rw [hlo2] at hmul hP1
    rw [hhi2] at hmul hP2
    obtain ⟨a1, ha2⟩ : ∃ a : Int, ((64 * W + k : Nat) : Int) = a := ⟨_, rfl⟩
    obtain ⟨a2, ha3⟩ : ∃ a : Int, ((64 * (W + 1) + k : Nat) : Int) = a := ⟨_, rfl⟩
    rw [ha2] at hE hP1
    rw [ha3] at ha1 hP2
    have hb2 : (!(bx == by_)) = b := hb
    have hE3 := hE1.1
    have hE4 := hE1.2
    have hF3 := hF1.1
    have hF4 := hF1.2
    have HM := Lib.hid hm
    have HN := Lib.hid hn
    have HMUL := Lib.hid hmul
    have HP1 := Lib.hid hP1
    have HP2 := Lib.hid hP2
    clear hm hn hmul hP1 hP2 hav hR hA hmm hnn hEE hFF hlo2 hhi2 ha2 ha3 hlo hhi hmz hnz h0 h1 p1 p2 q1 q2 hat hbx hby wx wy fx fy ha hW hk hE1 hF1
    go_enter Try.func40, Try.ntmps40
    go_wp2_with fail
    refine (HM.out _).mono ?_
    rintro e w' ⟨rfl, rfl⟩
    go_wp2_with fail
    refine (HN.out _).mono ?_
    rintro e w' ⟨rfl, rfl⟩
    go_wp2_with fail
    refine (HMUL.out _).mono ?_
    rintro e w' ⟨rfl, rfl⟩
    go_wp2_with fail
    refine HP1.out.mono ?_
    rintro e wa ⟨rfl, hacc, htt⟩
    have HC := Lib.hid hacc
    have HT := Lib.hid htt
    clear hacc htt
    go_wp2_with fail
    refine (HP2.out _ HC.out).mono ?_
    rintro e wb ⟨rfl, hacc, htt⟩
    go_wp2
    go_end0
    exact ⟨rfl, hacc, HT.out.trans htt⟩
end Go.Proofs.Ytlegkefonpiakaa
