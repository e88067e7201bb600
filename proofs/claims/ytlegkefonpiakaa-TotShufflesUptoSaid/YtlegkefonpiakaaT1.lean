/- Walks of tot's functions on numbers: a sum as two, halves, a product as two, what is fit. Conditions: the operations on floats are valid. -/
import Derived.Test.YtlegkefonpiakaaRows
import Derived.WalkKit
import Derived.WalkSpells
import Derived.WalkLawsBesides
import Derived.Deep.Light
namespace Go.Proofs.Ytlegkefonpiakaa
open Go.RowKit

theorem call26 (b : Nat) (w : World) : (callFunc 26 #[.float .f64 b]).run Try.prog w = .ok (.value (.int .u64 b)) w := by
  rw [run_callFunc_extern Try.func26 (by kernel_rfl) (by kernel_rfl) (by kernel_rfl) (e := Extern.MathFloatBits.float64bits) (by kernel_rfl)]; rfl
theorem call55 (n : Int) (w : World) : (callFunc 55 #[.int .u64 n]).run Try.prog w = .ok (.value (.float .f64 n.toNat)) w := by
  rw [run_callFunc_extern Try.func55 (by kernel_rfl) (by kernel_rfl) (by kernel_rfl) (e := Extern.MathFloatBits.float64frombits) (by kernel_rfl)]; rfl

/-- an operation's word, and that there is one -/
def fv (op : BinOp) (x y : Nat) : Nat := (floatBits op .f64 x y).getD 0
def FOk (op : BinOp) (x y : Nat) : Prop := (floatBits op .f64 x y).isSome = true
theorem run_fv {op : BinOp} {x y : Nat} (h : FOk op x y) (w : World) : (binOp op 23 (.float .f64 x) (.float .f64 y)).run Try.prog w = .ok (.float .f64 (fv op x y)) w := by
  obtain ⟨r, hr⟩ := Option.isSome_iff_exists.1 h
  rw [run_float_arith w op 23 .f64 x y r hr]
  unfold fv; rw [hr]; rfl

/-- a sum as two -/
def twoS (a b : Nat) : Nat := fv .add a b
def twoC (a b : Nat) : Nat := fv .sub (twoS a b) a
def twoE (a b : Nat) : Nat := fv .add (fv .sub a (fv .sub (twoS a b) (twoC a b))) (fv .sub b (twoC a b))
structure TwoOk (a b : Nat) : Prop where
  h1 : FOk .add a b
  h2 : FOk .sub (twoS a b) a
  h3 : FOk .sub (twoS a b) (twoC a b)
  h4 : FOk .sub a (fv .sub (twoS a b) (twoC a b))
  h5 : FOk .sub b (twoC a b)
  h6 : FOk .add (fv .sub a (fv .sub (twoS a b) (twoC a b))) (fv .sub b (twoC a b))

theorem two_any (a b : Nat) (h : TwoOk a b) (w : World) :
    Calls Try.prog 38 #[.float .f64 a, .float .f64 b] w fun e w' => e = .returned (.tuple #[.float .f64 (twoS a b), .float .f64 (twoE a b)]) ∧ w = w' := by
  have r1 := run_fv h.h1
  have r2 := run_fv h.h2
  have r3 := run_fv h.h3
  have r4 := run_fv h.h4
  have r5 := run_fv h.h5
  have r6 := run_fv h.h6
  unfold twoE
  unfold twoC twoS at *
  clear h
  generalize fv .add a b = s at *
  generalize fv .sub s a = c at *
  generalize fv .sub s c = d at *
  generalize fv .sub a d = a' at *
  generalize fv .sub b c = b' at *
  generalize fv .add a' b' = e' at *
  go_enter Try.func38, Try.ntmps38
  go_wp2
  go_ret2
  exact ⟨rfl, rfl⟩

/-- halves -/
def halfC (a : Nat) : Nat := fv .mul 4728779608772575232 a
def halfH (a : Nat) : Nat := fv .sub (halfC a) (fv .sub (halfC a) a)
def halfL (a : Nat) : Nat := fv .sub a (halfH a)
structure HalfOk (a : Nat) : Prop where
  h1 : FOk .mul 4728779608772575232 a
  h2 : FOk .sub (halfC a) a
  h3 : FOk .sub (halfC a) (fv .sub (halfC a) a)
  h4 : FOk .sub a (halfH a)

theorem halves_any (a : Nat) (h : HalfOk a) (w : World) :
    Calls Try.prog 49 #[.float .f64 a] w fun e w' => e = .returned (.tuple #[.float .f64 (halfH a), .float .f64 (halfL a)]) ∧ w = w' := by
  have r1 := run_fv h.h1
  have r2 := run_fv h.h2
  have r3 := run_fv h.h3
  have r4 := run_fv h.h4
  clear h
  unfold halfL
  unfold halfH at *
  unfold halfC at *
  generalize fv .mul 4728779608772575232 a = c at *
  generalize fv .sub c a = d at *
  generalize fv .sub c d = e at *
  generalize fv .sub a e = g at *
  go_enter Try.func49, Try.ntmps49
  go_wp2
  go_ret2
  exact ⟨rfl, rfl⟩

/-- a product as two -/
def prodP (a b : Nat) : Nat := fv .mul a b
def prod1 (a b : Nat) : Nat := fv .sub (fv .mul (halfH a) (halfH b)) (prodP a b)
def prod2 (a b : Nat) : Nat := fv .add (prod1 a b) (fv .mul (halfH a) (halfL b))
def prod3 (a b : Nat) : Nat := fv .add (prod2 a b) (fv .mul (halfL a) (halfH b))
def prodE (a b : Nat) : Nat := fv .add (prod3 a b) (fv .mul (halfL a) (halfL b))
structure ProdOk (a b : Nat) : Prop where
  ha : HalfOk a
  hb : HalfOk b
  h1 : FOk .mul a b
  h2 : FOk .mul (halfH a) (halfH b)
  h3 : FOk .sub (fv .mul (halfH a) (halfH b)) (prodP a b)
  h4 : FOk .mul (halfH a) (halfL b)
  h5 : FOk .add (prod1 a b) (fv .mul (halfH a) (halfL b))
  h6 : FOk .mul (halfL a) (halfH b)
  h7 : FOk .add (prod2 a b) (fv .mul (halfL a) (halfH b))
  h8 : FOk .mul (halfL a) (halfL b)
  h9 : FOk .add (prod3 a b) (fv .mul (halfL a) (halfL b))

theorem product_any (a b : Nat) (h : ProdOk a b) (w : World) :
    Calls Try.prog 39 #[.float .f64 a, .float .f64 b] w fun e w' => e = .returned (.tuple #[.float .f64 (prodP a b), .float .f64 (prodE a b)]) ∧ w = w' := by
  have ca := halves_any a h.ha
  have cb := halves_any b h.hb
  have r1 := run_fv h.h1
  have r2 := run_fv h.h2
  have r3 := run_fv h.h3
  have r4 := run_fv h.h4
  have r5 := run_fv h.h5
  have r6 := run_fv h.h6
  have r7 := run_fv h.h7
  have r8 := run_fv h.h8
  have r9 := run_fv h.h9
  clear h
  unfold prodE
  unfold prod3 at *
  unfold prod2 at *
  unfold prod1 at *
  unfold prodP at *
  generalize halfH a = ah at *
  generalize halfL a = al at *
  generalize halfH b = bh at *
  generalize halfL b = bl at *
  generalize fv .mul a b = p at *
  generalize fv .mul ah bh = m1 at *
  generalize fv .mul ah bl = m2 at *
  generalize fv .mul al bh = m3 at *
  generalize fv .mul al bl = m4 at *
  generalize fv .sub m1 p = s1 at *
  generalize fv .add s1 m2 = s2 at *
  generalize fv .add s2 m3 = s3 at *
  generalize fv .add s3 m4 = s4 at *
  go_enter Try.func39, Try.ntmps39
  go_wp2_with fail
  refine (ca _).mono ?_
  rintro e w' ⟨rfl, rfl⟩
  go_wp2_with fail
  refine (cb _).mono ?_
  rintro e w' ⟨rfl, rfl⟩
  go_wp2_with fail
  go_ret2
  exact ⟨rfl, rfl⟩
end Go.Proofs.Ytlegkefonpiakaa
