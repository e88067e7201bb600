/- Plain law: the float operations that the step uses, said of whole numbers of units. Conditions: finite words, far below overflow. -/
import Derived.Test.YtjapohjfheielaaRows
import Derived.Test.YtjapohjfheielaaFlJ
import Derived.WalkKit
import Derived.WalkSpells
import Derived.WalkLawsBesides
import Derived.Deep.Light
import Derived.Lib.Hide
namespace Go.Proofs.Ytjapohjfheielaa
open Go.RowKit
open Ieee (FinW V dR big double wordOf deepD)

abbrev o64 (x y : Nat) : Option Ordering := FloatKind.f64.format.order x y
/-- an operation's word, and that there is one -/
def fv (op : BinOp) (x y : Nat) : Nat := (floatBits op .f64 x y).getD 0
def FOk (op : BinOp) (x y : Nat) : Prop := (floatBits op .f64 x y).isSome = true
theorem run_fv {op : BinOp} {x y : Nat} (h : FOk op x y) (w : World) : (binOp op 23 (.float .f64 x) (.float .f64 y)).run Try.prog w = .ok (.float .f64 (fv op x y)) w := by
  obtain ⟨r, hr⟩ := Option.isSome_iff_exists.1 h
  rw [run_float_arith w op 23 .f64 x y r hr]
  unfold fv; rw [hr]; rfl
theorem fv_add (x y : Nat) : fv .add x y = (double.add x y).getD 0 := rfl
theorem fv_sub (x y : Nat) : fv .sub x y = (double.sub x y).getD 0 := rfl
theorem fv_mul (x y : Nat) : fv .mul x y = (double.mul x y).getD 0 := rfl
theorem fv_quo (x y : Nat) : fv .quo x y = (double.div x y).getD 0 := rfl
theorem FOk_add (x y : Nat) : FOk .add x y = ((double.add x y).isSome = true) := rfl
theorem FOk_sub (x y : Nat) : FOk .sub x y = ((double.sub x y).isSome = true) := rfl
theorem FOk_mul (x y : Nat) : FOk .mul x y = ((double.mul x y).isSome = true) := rfl
theorem FOk_quo (x y : Nat) : FOk .quo x y = ((double.div x y).isSome = true) := rfl

theorem w_add {x y : Nat} (hx : FinW x) (hy : FinW y) (hb : (V x + V y).natAbs ≤ big) : FOk .add x y ∧ FinW (fv .add x y) ∧ V (fv .add x y) = dR (V x + V y) := by
  obtain ⟨r, h1, h2, h3⟩ := Ieee.add_some hx hy hb
  rw [FOk_add, fv_add, h1]; exact ⟨rfl, h2, h3⟩
theorem w_sub {x y : Nat} (hx : FinW x) (hy : FinW y) (hb : (V x - V y).natAbs ≤ big) : FOk .sub x y ∧ FinW (fv .sub x y) ∧ V (fv .sub x y) = dR (V x - V y) := by
  obtain ⟨r, h1, h2, h3⟩ := Ieee.sub_some hx hy hb
  rw [FOk_sub, fv_sub, h1]; exact ⟨rfl, h2, h3⟩
theorem w_mul {x y : Nat} (hx : FinW x) (hy : FinW y) {M : Int} (hM : V x * V y = M * 2 ^ deepD) (hb : M.natAbs ≤ big) : FOk .mul x y ∧ FinW (fv .mul x y) ∧ V (fv .mul x y) = dR M := by
  obtain ⟨r, h1, h2, h3⟩ := Ieee.mul_some hx hy hM hb
  rw [FOk_mul, fv_mul, h1]; exact ⟨rfl, h2, h3⟩
theorem dR_le (z : Int) : (dR z).natAbs ≤ 2 * z.natAbs := by
  have := double.rnd_near Ieee.hp52 z double.fits_zero
  unfold dR
  omega
theorem dR_neg (z : Int) : dR (-z) = -dR z := double.rnd_neg z
theorem dR_zero : dR 0 = 0 := double.rnd_zero
theorem dR_fits (z : Int) : dR (dR z) = dR z := double.rnd_of_fits Ieee.hp52 (double.fits_rnd z)
theorem dR_mono {a b : Int} (h : a ≤ b) : dR a ≤ dR b := double.rnd_mono Ieee.hp52 h
theorem dR_int {n : Int} (h : n.natAbs < 9007199254740992) : dR (n * 2 ^ deepD) = n * 2 ^ deepD := double.rnd_of_fits Ieee.hp52 (Ieee.fits_int h)
theorem fin_zero : FinW 0 := by refine ⟨by omega, ?_⟩; decide
theorem V_zero : V 0 = 0 := by decide

/-- a quotient, and that its sign alone turns with the dividend's -/
theorem w_div {x y : Nat} (hx : FinW x) (hy : FinW y) {b : Nat} (hb : b ≤ 900) (h0 : V y ≠ 0) (h : (V x).natAbs ≤ 2 ^ b * (V y).natAbs) :
    FOk .quo x y ∧ FinW (fv .quo x y) ∧ (V (fv .quo x y)).natAbs ≤ 2 ^ (b + deepD) ∧ ∀ x', FinW x' → V x' = -V x → V (fv .quo x' y) = -V (fv .quo x y) := by
  obtain ⟨R, h1, h2, h3⟩ := Ieee.div_some hx hy hb h0 h
  have hq := h3 x hx rfl
  rw [FOk_quo, fv_quo, hq]
  refine ⟨rfl, Ieee.finw_word _ h1, ?_, ?_⟩
  · show (V (double.word _ R)).natAbs ≤ _
    rw [Ieee.V_word _ h1]; split
    · rw [Int.natAbs_neg]; exact h2
    · exact h2
  · intro x' hx' hv
    have hr : double.rung x' = double.rung x := by
      apply double.unit_inj
      rw [← Ieee.V_abs, ← Ieee.V_abs, hv, Int.natAbs_neg]
    rw [fv_quo, h3 x' hx' hr]
    show V (double.word _ R) = -V (double.word _ R)
    rw [Ieee.V_word _ h1, Ieee.V_word _ h1]
    by_cases hz : V x = 0
    · -- a zero over anything is a zero: the rung is 0
      have hR : double.unit R = 0 := by
        have hz2 : double.unit (double.rung x) = 0 := by rw [← Ieee.V_abs, hz]; rfl
        obtain ⟨R2, g1, g2, g3⟩ := Ieee.div_zero hx hy h0 hz2
        have e := g3.symm.trans hq
        have e2 := Option.some.inj e
        have := (double.word_inj (Nat.lt_trans g1 double.infRung_ltS) (Nat.lt_trans h1 double.infRung_ltS) e2).2
        rw [← this]; exact g2
      rw [hR]; simp
    · have hn : double.neg x' = !double.neg x := by
        unfold Ieee.V Ieee.Format.sval at hv hz
        rw [hr] at hv
        cases a : double.neg x <;> cases b : double.neg x' <;> rw [a] at hv hz <;> rw [b] at hv <;> simp at hv hz ⊢ <;> omega
      rw [hn]
      cases double.neg x <;> cases double.neg y <;> simp

/-- a square root -/
def sqW (x : Nat) : Nat := (double.sqrt x).getD 0
theorem w_sqrt {x : Nat} (hx : FinW x) {c : Nat} (hc : c ≤ 900) (h1 : 2 ^ deepD ≤ V x) (h2 : V x ≤ 2 ^ (2 * c + deepD)) :
    double.sqrt x = some (sqW x) ∧ FinW (sqW x) ∧ 2 ^ deepD ≤ V (sqW x) ∧ V (sqW x) ≤ 2 ^ (c + deepD) := by
  obtain ⟨r, g1, g2, g3, g4⟩ := Ieee.sqrt_some hx hc h1 h2
  unfold sqW
  rw [g1]
  exact ⟨rfl, g2, g3, g4⟩

/-- a whole number as a float -/
def iw (n : Int) : Nat := floatOfInt .f64 n
theorem iw_V {n : Int} (h : n.natAbs < 9007199254740992) : FinW (iw n) ∧ V (iw n) = n * 2 ^ deepD := Ieee.ofInt_V h

/-- the number below, as a float and as a whole number -/
def flW (x : Nat) : Nat := double.write ((double.read x).integral .down)
theorem w_floor {x : Nat} (hx : FinW x) (h : (V x).natAbs ≤ 4503599627370496 * 2 ^ deepD) : FinW (flW x) ∧ V (flW x) = V x / 2 ^ deepD * 2 ^ deepD := Ieee.floor_some hx h
theorem w_int {y : Nat} (hy : FinW y) {n : Int} (h : V y = n * 2 ^ deepD) (hn : n.natAbs < 9007199254740992) : floatToIntVal .f64 y .i64 = some n := by
  unfold floatToIntVal
  rw [show (FloatKind.f64.decode y).toInt .zero = some n from Ieee.toInt_word hy h]
  have h1 : IntKind.i64.min ≤ n ∧ n ≤ IntKind.i64.max := by
    simp [IntKind.min, IntKind.max, IntKind.signed, IntKind.bits]; omega
  simp only [h1, and_self, if_true]

theorem o64_V {x y : Nat} (hx : FinW x) (hy : FinW y) : o64 x y = some (compare (V x) (V y)) := Ieee.order_V hx hy
theorem cmp_lt {a b : Int} : compare a b = .lt ↔ a < b := by
  simp only [compare, compareOfLessAndEq]; split
  · simp_all
  · split <;> simp_all
theorem cmp_gt {a b : Int} : compare a b = .gt ↔ b < a := by
  simp only [compare, compareOfLessAndEq]; split
  · simp_all; omega
  · split
    · simp_all
    · simp_all; omega
theorem cmp_eq {a b : Int} : compare a b = .eq ↔ a = b := by
  simp only [compare, compareOfLessAndEq]; split
  · simp_all; omega
  · split <;> simp_all
theorem lt_V {x y : Nat} (hx : FinW x) (hy : FinW y) : (o64 x y == some .lt) = decide (V x < V y) := by
  rw [o64_V hx hy]
  by_cases h : V x < V y
  · rw [cmp_lt.2 h, decide_eq_true h]; rfl
  · rw [decide_eq_false h, beq_eq_false_iff_ne]; intro e; exact h (cmp_lt.1 (Option.some.inj e))
theorem gt_V {x y : Nat} (hx : FinW x) (hy : FinW y) : (o64 x y == some .gt) = decide (V y < V x) := by
  rw [o64_V hx hy]
  by_cases h : V y < V x
  · rw [cmp_gt.2 h, decide_eq_true h]; rfl
  · rw [decide_eq_false h, beq_eq_false_iff_ne]; intro e; exact h (cmp_gt.1 (Option.some.inj e))
end Go.Proofs.Ytjapohjfheielaa
