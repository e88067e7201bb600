/- Plain law: what is fit, in units; halves and products of fit words. Conditions: words of 64 bits. -/
import Derived.Test.YtlegkefonpiakaaU2
namespace Go.Proofs.Ytlegkefonpiakaa
open Ieee (FinW V dR big double wordOf)

attribute [local irreducible] Ieee.V Ieee.Format.rnd fv Ieee.big

def inf64 : Nat := 9218868437227405312
def sk (x : Nat) : Int := if ng x then -(rg x : Int) else (rg x : Int)
theorem rung_d (x : Nat) : Ieee.double.rung x = rg x := rfl
theorem infRung_d : Ieee.double.infRung = inf64 := by decide
theorem neg_d {x : Nat} (h : x < 18446744073709551616) : Ieee.double.neg x = ng x := by
  show (x / 9223372036854775808 % 2 == 1) = decide (9223372036854775808 ≤ x)
  by_cases h' : 9223372036854775808 ≤ x
  · have : x / 9223372036854775808 = 1 := by omega
    rw [this]; simp [h']
  · have : x / 9223372036854775808 = 0 := by omega
    rw [this]; simp [h']
theorem skey_d {x : Nat} (h : x < 18446744073709551616) : Ieee.double.skey x = sk x := by
  unfold Ieee.Format.skey sk; rw [neg_d h, rung_d]
theorem okE : Ieee.double.binade ≤ Ieee.double.infRung := by decide
theorem o64_nan1 {x : Nat} (y : Nat) (h : inf64 < rg x) : o64 x y = none := Ieee.double.order_nan_left okE (by rw [rung_d, infRung_d]; exact h)
theorem o64_num {x y : Nat} (hx : x < 18446744073709551616) (hy : y < 18446744073709551616) (h : rg x ≤ inf64) (h' : rg y ≤ inf64) : o64 x y = some (compare (sk x) (sk y)) := by
  rw [← skey_d hx, ← skey_d hy]
  exact Ieee.double.order_eq okE (by rw [rung_d, infRung_d]; exact h) (by rw [rung_d, infRung_d]; exact h')
theorem cmp_gt {a b : Int} : compare a b = .gt ↔ b < a := by
  simp only [compare, compareOfLessAndEq]; split
  · simp_all; omega
  · split <;> simp_all; omega

/-- what is fit: 0, or of a rung between two -/
theorem fit_spec (x : Nat) : fitB x = decide (rg x = 0 ∨ (3706462493325918208 ≤ rg x ∧ rg x ≤ 5507902344274116608)) := by
  unfold fitB fitRaw
  have hl := rg_lt x
  generalize hr : rg x = r at *
  have hrr : rg r = r := by rw [← hr]; exact rg_rg x
  by_cases hi : r ≤ inf64
  · have s1 : sk r = (r : Int) := by unfold sk; rw [← hr, ng_rg, rg_rg]; rfl
    have o : ∀ c : Nat, c < 9218868437227405312 → o64 r c = some (compare (r : Int) (c : Int)) := by
      intro c hc
      have h1 : rg c = c := rg_of_lt (by omega)
      have s2 : sk c = (c : Int) := by unfold sk; rw [h1]; have : ng c = false := by unfold ng; simp; omega
                                       rw [this]; rfl
      rw [o64_num (by omega) (by omega) (by rw [hrr]; exact hi) (by rw [h1]; unfold inf64; omega), s1, s2]
    rw [o 0 (by omega), o 3706462493325918208 (by omega), o 5507902344274116608 (by omega)]
    rw [Bool.eq_iff_iff, decide_eq_true_iff]
    simp only [Bool.or_eq_true, Bool.and_eq_true, beq_iff_eq, Option.some.injEq, cmp_lt, cmp_eq, cmp_gt]
    omega
  · have : ∀ c, o64 r c = none := fun c => o64_nan1 c (by rw [hrr]; omega)
    simp only [this]
    unfold inf64 at hi
    rw [Bool.eq_iff_iff, decide_eq_true_iff]
    simp only [Bool.or_eq_true, Bool.and_eq_true, beq_iff_eq]
    constructor
    · intro h; simp at h
    · intro h; omega

theorem binade_d : double.binade = 4503599627370496 := by decide

/-- a scale that is kept -/
structure Sc (x : Nat) (a : Int) (k m : Nat) : Prop where
  f : FinW x
  v : V x = a * 2 ^ k
  b : a.natAbs ≤ m

theorem fit_form {x : Nat} (hx : x < 18446744073709551616) (h : fitB x = true) : ∃ (A : Int) (i : Nat), Sc x A i 9007199254740991 ∧ (A = 0 ∨ 4503599627370496 ≤ A.natAbs) ∧ 822 ≤ i ∧ i ≤ 1222 := by
  rw [fit_spec, decide_eq_true_iff] at h
  have hfin : FinW x := by
    refine ⟨hx, ?_⟩
    rw [rung_d, infRung_d]; unfold inf64; omega
  rcases h with h | h
  · refine ⟨0, 822, ⟨hfin, ?_, by simp⟩, Or.inl rfl, Nat.le_refl _, by omega⟩
    have := Ieee.V_abs x
    rw [rung_d, h] at this
    have e : double.unit 0 = 0 := double.unit_zero
    rw [e] at this
    rw [Int.zero_mul]; omega
  · have hu : double.unit (rg x) = (4503599627370496 + rg x % 4503599627370496) * 2 ^ (rg x / 4503599627370496 - 1) := by
      unfold Ieee.Format.unit
      rw [binade_d, if_neg (by omega)]
    have hva := Ieee.V_abs x
    rw [rung_d, hu] at hva
    have hp : (0 : Int) < 2 ^ (rg x / 4503599627370496 - 1) := Int.pow_pos (by omega)
    have hcast : (((4503599627370496 + rg x % 4503599627370496) * 2 ^ (rg x / 4503599627370496 - 1) : Nat) : Int) = ((4503599627370496 + rg x % 4503599627370496 : Nat) : Int) * 2 ^ (rg x / 4503599627370496 - 1) := by
      rw [Int.natCast_mul]; simp
    have hi : 822 ≤ rg x / 4503599627370496 - 1 ∧ rg x / 4503599627370496 - 1 ≤ 1222 := by omega
    have hm : rg x % 4503599627370496 < 4503599627370496 := Nat.mod_lt _ (by omega)
    generalize rg x / 4503599627370496 - 1 = i at *
    generalize rg x % 4503599627370496 = r at *
    by_cases hs : V x < 0
    · refine ⟨-((4503599627370496 + r : Nat) : Int), i, ⟨hfin, ?_, by omega⟩, Or.inr (by omega), hi.1, hi.2⟩
      rw [Int.neg_mul, ← hcast]; omega
    · refine ⟨((4503599627370496 + r : Nat) : Int), i, ⟨hfin, ?_, by omega⟩, Or.inr (by omega), hi.1, hi.2⟩
      rw [← hcast]; omega

def midE : Nat := 200
def mid : Nat := 2 ^ midE
theorem scale_big {z : Int} {k : Nat} (h : z.natAbs ≤ mid) (hk : k ≤ 1700) : (z * 2 ^ k).natAbs ≤ big := by
  rw [Int.natAbs_mul, Int.natAbs_pow]
  show z.natAbs * 2 ^ k ≤ _
  have e : big = 2 ^ Ieee.bigE := by unfold big; rfl
  calc z.natAbs * 2 ^ k ≤ mid * 2 ^ k := Nat.mul_le_mul_right _ h
    _ = 2 ^ (midE + k) := by unfold mid; rw [Nat.pow_add]
    _ ≤ 2 ^ Ieee.bigE := Nat.pow_le_pow_right (by omega) (by unfold midE Ieee.bigE; omega)
    _ = big := e.symm

theorem s_add {x y : Nat} {a b : Int} {k m n : Nat} (hx : Sc x a k m) (hy : Sc y b k n) (hb : m + n ≤ mid) (hk : k ≤ 1700) : FOk .add x y ∧ Sc (fv .add x y) (dR (a + b)) k (2 * (m + n)) := by
  have h0 : (a + b).natAbs ≤ m + n := Nat.le_trans (Int.natAbs_add_le _ _) (Nat.add_le_add hx.b hy.b)
  have e : V x + V y = (a + b) * 2 ^ k := by rw [hx.v, hy.v, Int.add_mul]
  obtain ⟨o, f, v⟩ := w_add hx.f hy.f (by rw [e]; exact scale_big (Nat.le_trans h0 hb) hk)
  refine ⟨o, f, ?_, Nat.le_trans (dR_le _) (Nat.mul_le_mul_left 2 h0)⟩
  rw [v, e]; exact double.rnd_scale Ieee.hp52 _ _
theorem s_sub {x y : Nat} {a b : Int} {k m n : Nat} (hx : Sc x a k m) (hy : Sc y b k n) (hb : m + n ≤ mid) (hk : k ≤ 1700) : FOk .sub x y ∧ Sc (fv .sub x y) (dR (a - b)) k (2 * (m + n)) := by
  have h0 : (a - b).natAbs ≤ m + n := Nat.le_trans (Int.natAbs_sub_le _ _) (Nat.add_le_add hx.b hy.b)
  have e : V x - V y = (a - b) * 2 ^ k := by rw [hx.v, hy.v, Int.sub_mul]
  obtain ⟨o, f, v⟩ := w_sub hx.f hy.f (by rw [e]; exact scale_big (Nat.le_trans h0 hb) hk)
  refine ⟨o, f, ?_, Nat.le_trans (dR_le _) (Nat.mul_le_mul_left 2 h0)⟩
  rw [v, e]; exact double.rnd_scale Ieee.hp52 _ _
theorem s_mul {x y : Nat} {a b : Int} {i j k m n : Nat} (hx : Sc x a i m) (hy : Sc y b j n) (hk : i + j = k + Ieee.deepD) (hb : m * n ≤ mid) (hk' : k ≤ 1700) : FOk .mul x y ∧ Sc (fv .mul x y) (dR (a * b)) k (2 * (m * n)) := by
  have h0 : (a * b).natAbs ≤ m * n := Ieee.mul_le hx.b hy.b
  have e : V x * V y = (a * b * 2 ^ k) * 2 ^ Ieee.deepD := by
    have : (2 : Int) ^ i * 2 ^ j = 2 ^ k * 2 ^ Ieee.deepD := by rw [← Int.pow_add, ← Int.pow_add, hk]
    calc V x * V y = a * 2 ^ i * (b * 2 ^ j) := by rw [hx.v, hy.v]
      _ = a * b * (2 ^ i * 2 ^ j) := by simp only [Int.mul_assoc, Int.mul_left_comm]
      _ = a * b * (2 ^ k * 2 ^ Ieee.deepD) := by rw [this]
      _ = a * b * 2 ^ k * 2 ^ Ieee.deepD := by simp only [Int.mul_assoc]
  obtain ⟨o, f, v⟩ := w_mul hx.f hy.f e (scale_big (Nat.le_trans h0 hb) hk')
  refine ⟨o, f, ?_, Nat.le_trans (dR_le _) (Nat.mul_le_mul_left 2 h0)⟩
  rw [v]; exact double.rnd_scale Ieee.hp52 _ _

theorem dR_zero : dR 0 = 0 := double.rnd_of_fits Ieee.hp52 double.fits_zero

theorem fin_split : FinW 4728779608772575232 := by refine ⟨by omega, ?_⟩; decide
theorem V_split : V 4728779608772575232 = 134217729 * 2 ^ Ieee.deepD := by unfold V; decide +kernel

structure Halved (x : Nat) (A H L : Int) (i : Nat) : Prop where
  ok : HalfOk x
  sx : Sc x A i 9007199254740991
  sh : Sc (halfH x) (H * 134217728) i 9007199254740992
  sl : Sc (halfL x) L i 67108864
  e : A = H * 134217728 + L
  hH : H.natAbs ≤ 67108864
  z : (A = 0 ∧ H = 0 ∧ L = 0) ∨ 4503599627370496 ≤ A.natAbs

theorem halved {x : Nat} {A : Int} {i : Nat} (sx : Sc x A i 9007199254740991) (hz : A = 0 ∨ 4503599627370496 ≤ A.natAbs) (hi : i ≤ 1222) : ∃ H L, Halved x A H L i := by
  have hm : (2 : Nat) ^ 150 ≤ mid := by unfold mid midE; decide
  have p150 : (2 : Nat) ^ 150 = 1427247692705959881058285969449495136382746624 := by decide
  rw [p150] at hm
  have sc : Sc 4728779608772575232 134217729 Ieee.deepD 134217729 := ⟨fin_split, V_split, by decide⟩
  obtain ⟨o1, c1⟩ := s_mul sc sx (k := i) (by omega) (by omega) (by omega)
  obtain ⟨o2, c2⟩ := s_sub c1 sx (by omega) (by omega)
  obtain ⟨o3, c3⟩ := s_sub c1 c2 (by omega) (by omega)
  obtain ⟨o4, c4⟩ := s_sub sx c3 (by omega) (by omega)
  have hh : ∃ H L : Int, dR (dR (134217729 * A) - dR (dR (134217729 * A) - A)) = H * 134217728 ∧ dR (A - H * 134217728) = L ∧ A = H * 134217728 + L ∧ H.natAbs ≤ 67108864 ∧ L.natAbs ≤ 67108864 ∧ (A = 0 ∧ H = 0 ∧ L = 0 ∨ 4503599627370496 ≤ A.natAbs) := by
    rcases hz with h0 | h1
    · subst h0
      refine ⟨0, 0, ?_, ?_, by omega, by decide, by decide, Or.inl ⟨rfl, rfl, rfl⟩⟩
      · simp only [Int.mul_zero, dR_zero, Int.sub_self, Int.zero_mul]
      · simp only [Int.zero_mul, Int.sub_self, dR_zero]
    · obtain ⟨H, L, a, b, c, d, e⟩ := Ieee.halves_norm h1 (by have := sx.b; omega)
      exact ⟨H, L, a, b, c, d, e, Or.inr h1⟩
  obtain ⟨H, L, e1, e2, e3, e4, e5, e6⟩ := hh
  rw [e1] at c3 c4
  rw [e2] at c4
  exact ⟨H, L, ⟨o1, o2, o3, o4⟩, sx, ⟨c3.f, c3.v, by clear c1 c2 c3 c4 e1 e2 e3; omega⟩, ⟨c4.f, c4.v, e5⟩, e3, e4, e6⟩

theorem product_law {A B H L K M : Int} (a2 : A.natAbs ≤ 9007199254740991) (b2 : B.natAbs ≤ 9007199254740991)
    (hA : A = H * 134217728 + L) (hB' : B = K * 134217728 + M) (hH : H.natAbs ≤ 67108864) (hL : L.natAbs ≤ 67108864) (hK : K.natAbs ≤ 67108864) (hM : M.natAbs ≤ 67108864)
    (za : A = 0 ∧ H = 0 ∧ L = 0 ∨ 4503599627370496 ≤ A.natAbs) (zb : B = 0 ∧ K = 0 ∧ M = 0 ∨ 4503599627370496 ≤ B.natAbs) :
    dR (H * 134217728 * (K * 134217728)) = H * 134217728 * (K * 134217728) ∧ dR (H * 134217728 * M) = H * 134217728 * M ∧ dR (L * (K * 134217728)) = L * (K * 134217728) ∧ dR (L * M) = L * M ∧
    dR (dR (dR (dR (H * 134217728 * (K * 134217728) - dR (A * B)) + H * 134217728 * M) + L * (K * 134217728)) + L * M) = A * B - dR (A * B) := by
  rcases za with ⟨r1, r2, r3⟩ | za
  · subst r1 r2 r3
    simp only [Int.zero_mul, dR_zero, Int.sub_self, Int.add_zero, and_self]
  · rcases zb with ⟨r1, r2, r3⟩ | zb
    · subst r1 r2 r3
      simp only [Int.zero_mul, Int.mul_zero, dR_zero, Int.sub_self, Int.add_zero, and_self]
    · obtain ⟨p1, p2, p3, p4, p5, _⟩ := Ieee.product_norm za (by omega) zb (by omega) hA hB' hH hL hK hM
      exact ⟨p1, p2, p3, p4, p5⟩

theorem cancel (a b : Int) : b + (a - b) = a := by omega
def capE : Nat := 1500
def cap : Nat := 2 ^ capE

theorem cap_scale {z : Int} {k : Nat} (h : z.natAbs ≤ 1298074214633706907132624082305024) (hk : k ≤ 1370) : (z * 2 ^ k).natAbs ≤ cap := by
  rw [Int.natAbs_mul, Int.natAbs_pow]
  show z.natAbs * 2 ^ k ≤ _
  have e : (2 : Nat) ^ 110 = 1298074214633706907132624082305024 := by decide
  calc z.natAbs * 2 ^ k ≤ 2 ^ 110 * 2 ^ k := by rw [e]; exact Nat.mul_le_mul_right _ h
    _ = 2 ^ (110 + k) := by rw [Nat.pow_add]
    _ ≤ 2 ^ capE := Nat.pow_le_pow_right (by omega) (by unfold capE; omega)

/-- A PRODUCT AS TWO -/
theorem prod_V {x y : Nat} (hx : x < 18446744073709551616) (hy : y < 18446744073709551616) (fx : fitB x = true) (fy : fitB y = true) :
    ProdOk x y ∧ FinW (prodP x y) ∧ FinW (prodE x y) ∧ (V (prodP x y)).natAbs ≤ cap ∧ (V (prodE x y)).natAbs ≤ cap ∧ (V (prodP x y) + V (prodE x y)) * 2 ^ Ieee.deepD = V x * V y := by
  obtain ⟨A, i, sx, zx, i1, i2⟩ := fit_form hx fx
  obtain ⟨B, j, sy, zy, j1, j2⟩ := fit_form hy fy
  obtain ⟨H, L, hX⟩ := halved sx zx i2
  obtain ⟨K, M, hY⟩ := halved sy zy j2
  obtain ⟨p1, p2, p3, p4, p5⟩ := product_law sx.b sy.b hX.e hY.e hX.hH hX.sl.b hY.hH hY.sl.b hX.z hY.z
  have hm : (2 : Nat) ^ 150 ≤ mid := by unfold mid midE; decide
  have p150 : (2 : Nat) ^ 150 = 1427247692705959881058285969449495136382746624 := by decide
  rw [p150] at hm
  obtain ⟨k, hk⟩ : ∃ k, i + j = k + Ieee.deepD := ⟨i + j - 1074, by unfold Ieee.deepD; omega⟩
  have hk' : k ≤ 1370 := by unfold Ieee.deepD at hk; omega
  have hk2 : k ≤ 1700 := by omega
  obtain ⟨o1, c1⟩ := s_mul sx sy hk (by omega) hk2
  obtain ⟨o2, c2⟩ := s_mul hX.sh hY.sh hk (by omega) hk2
  obtain ⟨o4, c4⟩ := s_mul hX.sh hY.sl hk (by omega) hk2
  obtain ⟨o6, c6⟩ := s_mul hX.sl hY.sh hk (by omega) hk2
  obtain ⟨o8, c8⟩ := s_mul hX.sl hY.sl hk (by omega) hk2
  rw [p1] at c2
  rw [p2] at c4
  rw [p3] at c6
  rw [p4] at c8
  obtain ⟨o3, c3⟩ := s_sub c2 c1 (by omega) hk2
  obtain ⟨o5, c5⟩ := s_add c3 c4 (by omega) hk2
  obtain ⟨o7, c7⟩ := s_add c5 c6 (by omega) hk2
  obtain ⟨o9, c9⟩ := s_add c7 c8 (by omega) hk2
  rw [p5] at c9
  have hab := Ieee.mul_le sx.b sy.b
  have hd := dR_le (A * B)
  have vP : V (prodP x y) = dR (A * B) * 2 ^ k := c1.v
  have vE : V (prodE x y) = (A * B - dR (A * B)) * 2 ^ k := c9.v
  refine ⟨⟨hX.ok, hY.ok, o1, o2, o3, o4, o5, o6, o7, o8, o9⟩, c1.f, c9.f, ?_, ?_, ?_⟩
  · rw [vP]; refine cap_scale ?_ hk'
    generalize dR (A * B) = d at *
    generalize A * B = P at *
    clear c1 c2 c3 c4 c5 c6 c7 c8 c9 p1 p2 p3 p4 p5 vP vE
    omega
  · rw [vE]; refine cap_scale ?_ hk'
    have := Int.natAbs_sub_le (A * B) (dR (A * B))
    generalize dR (A * B) = d at *
    generalize A * B = P at *
    clear c1 c2 c3 c4 c5 c6 c7 c8 c9 p1 p2 p3 p4 p5 vP vE
    omega
  · calc (V (prodP x y) + V (prodE x y)) * 2 ^ Ieee.deepD = (dR (A * B) * 2 ^ k + (A * B - dR (A * B)) * 2 ^ k) * 2 ^ Ieee.deepD := by rw [vP, vE]
      _ = A * B * 2 ^ k * 2 ^ Ieee.deepD := by rw [← Int.add_mul, cancel]
      _ = A * B * 2 ^ (i + j) := by rw [Int.mul_assoc, ← Int.pow_add, ← hk]
      _ = A * 2 ^ i * (B * 2 ^ j) := by rw [Int.pow_add]; simp only [Int.mul_assoc, Int.mul_left_comm]
      _ = V x * V y := by rw [sx.v, sy.v]
end Go.Proofs.Ytlegkefonpiakaa
