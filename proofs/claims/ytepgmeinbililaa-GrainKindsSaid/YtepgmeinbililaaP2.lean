/- Plain law: from binary32 to binary64 and back, said of words; how they compare. Conditions: words of 32 bits. -/
import Derived.Test.YtepgmeinbililaaP1
import Derived.Test.YtepgmeinbililaaFlC
namespace Go.Proofs.Ytepgmeinbililaa
open Go.RowKit

def inf32 : Nat := 2139095040
abbrev o32 (x y : Nat) : Option Ordering := FloatKind.f32.format.order x y
def sk32 (x : Nat) : Int := if ng32 x then -(rg32 x : Int) else (rg32 x : Int)

theorem rung_s (x : Nat) : Ieee.single.rung x = rg32 x := rfl
theorem infRung_s : Ieee.single.infRung = inf32 := by decide
theorem neg_s {x : Nat} (h : x < 4294967296) : Ieee.single.neg x = ng32 x := by
  show (x / 2147483648 % 2 == 1) = decide (2147483648 ≤ x)
  by_cases h' : 2147483648 ≤ x
  · have : x / 2147483648 = 1 := by omega
    rw [this]; simp [h']
  · have : x / 2147483648 = 0 := by omega
    rw [this]; simp [h']
theorem skey_s {x : Nat} (h : x < 4294967296) : Ieee.single.skey x = sk32 x := by
  unfold Ieee.Format.skey sk32; rw [neg_s h, rung_s]

theorem o32_nan1 {x : Nat} (y : Nat) (h : inf32 < rg32 x) : o32 x y = none := Ieee.single.order_nan_left Ieee.ok_single (by rw [rung_s, infRung_s]; exact h)
theorem o32_nan2 (x : Nat) {y : Nat} (h : inf32 < rg32 y) : o32 x y = none := Ieee.single.order_nan_right Ieee.ok_single (by rw [rung_s, infRung_s]; exact h)
theorem o32_num {x y : Nat} (hx : x < 4294967296) (hy : y < 4294967296) (h : rg32 x ≤ inf32) (h' : rg32 y ≤ inf32) : o32 x y = some (compare (sk32 x) (sk32 y)) := by
  rw [← skey_s hx, ← skey_s hy]
  exact Ieee.single.order_eq Ieee.ok_single (by rw [rung_s, infRung_s]; exact h) (by rw [rung_s, infRung_s]; exact h')
theorem o32_self {x : Nat} (hx : x < 4294967296) : o32 x x = some .eq ↔ rg32 x ≤ inf32 := by
  by_cases h : rg32 x ≤ inf32
  · rw [o32_num hx hx h h]; simp only [Option.some.injEq, cmp_eq]; simp [h]
  · rw [o32_nan1 x (by omega)]; simp [h]

/-- a number of binary32 as a word of binary64 -/
def wideW (y : Nat) : Nat := Ieee.double.word (ng32 y) (Ieee.wideR (rg32 y))

theorem word_d (s : Bool) (r : Nat) : Ieee.double.word s r = r + (if s then 9223372036854775808 else 0) := by
  unfold Ieee.Format.word
  rw [show Ieee.double.signWeight = 9223372036854775808 from by decide]
  cases s <;> simp [Nat.add_comm]

theorem wideR_le {r : Nat} (h : r ≤ inf32) : Ieee.wideR r ≤ inf64 := by
  rw [← infRung_d]
  rcases Nat.lt_or_eq_of_le h with h | h
  · exact Nat.le_of_lt (Ieee.wideR_lt (by rw [infRung_s]; exact h))
  · rw [h, ← infRung_s, Ieee.wideR_inf]; exact Nat.le_refl _

theorem wideW_facts {y : Nat} (h : rg32 y ≤ inf32) : wideW y < 18446744073709551616 ∧ rg (wideW y) = Ieee.wideR (rg32 y) ∧ ng (wideW y) = ng32 y := by
  have h1 := wideR_le h
  have hi : inf64 = 9218868437227405312 := rfl
  unfold wideW
  rw [word_d]
  unfold rg ng
  generalize Ieee.wideR (rg32 y) = R at *
  cases ng32 y <;> simp <;> omega

theorem wide_lt_iff {x y : Nat} (hx : x < 4294967296) (hy : y < 4294967296) (h : rg32 x ≤ inf32) (h' : rg32 y ≤ inf32) : (o64 (wideW x) (wideW y) == some .lt) = (o32 x y == some .lt) := by
  obtain ⟨a1, a2, a3⟩ := wideW_facts h
  obtain ⟨b1, b2, b3⟩ := wideW_facts h'
  rw [o32_num hx hy h h', o64_num a1 b1 (by rw [a2]; exact wideR_le h) (by rw [b2]; exact wideR_le h')]
  have key : (sk (wideW x) < sk (wideW y)) ↔ sk32 x < sk32 y := by
    unfold sk sk32
    rw [a2, a3, b2, b3]
    have z : Ieee.wideR 0 = 0 := by decide +kernel
    have hm : ∀ {r s : Nat}, r < s → s ≤ inf32 → Ieee.wideR r < Ieee.wideR s := fun h1 h2 => Ieee.wideR_mono h1 (by rw [infRung_s]; exact h2)
    have m1 := @hm (rg32 x) (rg32 y)
    have m2 := @hm (rg32 y) (rg32 x)
    have m3 := @hm 0 (rg32 x)
    have m4 := @hm 0 (rg32 y)
    have m5 : rg32 x = rg32 y → Ieee.wideR (rg32 x) = Ieee.wideR (rg32 y) := fun e => by rw [e]
    rw [z] at m3 m4
    have m6 : rg32 x = 0 → Ieee.wideR (rg32 x) = 0 := fun e => by rw [e, z]
    have m7 : rg32 y = 0 → Ieee.wideR (rg32 y) = 0 := fun e => by rw [e, z]
    generalize Ieee.wideR (rg32 x) = X at *
    generalize Ieee.wideR (rg32 y) = Y at *
    cases ng32 x <;> cases ng32 y <;> simp <;> omega
  by_cases hk : sk32 x < sk32 y
  · rw [cmp_lt.2 hk, cmp_lt.2 (key.2 hk)]
  · have e1 : (some (compare (sk32 x) (sk32 y)) == some Ordering.lt) = false := by
      rw [beq_eq_false_iff_ne]; intro e; exact hk (cmp_lt.1 (Option.some.inj e))
    have e2 : (some (compare (sk (wideW x)) (sk (wideW y))) == some Ordering.lt) = false := by
      rw [beq_eq_false_iff_ne]; intro e; exact hk (key.1 (cmp_lt.1 (Option.some.inj e)))
    rw [e1, e2]

theorem conv_wide {y : Nat} (hy : y < 4294967296) (h : rg32 y ≤ inf32) : floatToFloatBits .f32 y .f64 = some (wideW y) := by
  unfold floatToFloatBits wideW
  rw [if_neg (by decide)]
  rw [← neg_s hy, ← rung_s]
  rcases Ieee.write_wide (y := y) (by rw [rung_s, infRung_s]; exact h) with ⟨s, m, e, hr, hw, hlt⟩ | ⟨hr, hi⟩
  · rw [show FloatKind.f32.decode y = _ from hr]
    show (if (Ieee.double.read (Ieee.double.write (.number s m e))).isInfinity = true then none else some (Ieee.double.write (.number s m e))) = _
    rw [hw]
    have hR := Ieee.wideR_lt hlt
    obtain ⟨m', k', hr', _, _⟩ := Ieee.double.read_fin (w := Ieee.double.word (Ieee.single.neg y) (Ieee.wideR (Ieee.single.rung y))) (by rw [Ieee.double.rung_word _ (Nat.lt_trans hR (by decide))]; exact hR)
    rw [hr']; rfl
  · rw [show FloatKind.f32.decode y = _ from hr, hi, Ieee.wideR_inf]
    rfl

theorem conv_back {y : Nat} (hy : y < 4294967296) (h : rg32 y ≤ inf32) : floatToFloatBits .f64 (wideW y) .f32 = some y := by
  have hlt := rg32_lt y
  have hyw : Ieee.single.word (ng32 y) (rg32 y) = y := by
    rw [← neg_s hy, ← rung_s]; exact Ieee.single.word_eq (by rw [show 2 * Ieee.single.signWeight = 4294967296 from by decide]; exact hy)
  unfold floatToFloatBits wideW
  rw [if_neg (by decide)]
  rcases Nat.lt_or_eq_of_le h with h | h
  · obtain ⟨m, e, hr, hw⟩ := Ieee.write_back (s := ng32 y) (r := rg32 y) (by rw [infRung_s]; exact h)
    rw [show FloatKind.f64.decode (Ieee.double.word (ng32 y) (Ieee.wideR (rg32 y))) = _ from hr]
    show (if (Ieee.single.read (Ieee.single.write (.number (ng32 y) m e))).isInfinity = true then none else some (Ieee.single.write (.number (ng32 y) m e))) = _
    rw [hw]
    obtain ⟨m', k', hr', _, _⟩ := Ieee.single.read_fin (w := Ieee.single.word (ng32 y) (rg32 y)) (by rw [hyw, rung_s, infRung_s]; exact h)
    rw [hr', hyw]; rfl
  · rw [h, ← infRung_s, Ieee.wideR_inf]
    have hs : Ieee.double.infRung < Ieee.double.signWeight := by decide
    have hr := Ieee.double.read_inf Ieee.ok_double (Ieee.double.rung_word (ng32 y) hs)
    rw [Ieee.double.neg_word _ hs] at hr
    rw [show FloatKind.f64.decode (Ieee.double.word (ng32 y) Ieee.double.infRung) = _ from hr]
    show some (Ieee.single.word (ng32 y) Ieee.single.infRung) = some y
    rw [infRung_s, ← h, hyw]

theorem conv_nan {y : Nat} (h : inf32 < rg32 y) (w : World) : ∃ r, (convert 29 24 (.float .f32 y)).run Try.prog w = .ok (.float .f64 r) w.drew ∧ canonRaw r = 9221120237041090560 := by
  have hr := Ieee.single.read_nan Ieee.ok_single (w := y) (by rw [rung_s, infRung_s]; exact h)
  have hd : FloatKind.f32.decode y = _ := hr
  refine ⟨(Question.nanConv .f64 y).cut (w.tape w.drawn (.nanConv .f64 y)), ?_, ?_⟩
  · have hs : Try.prog.underlying 29 = some (.float .f32) := by kernel_rfl
    have ht : Try.prog.underlying 24 = some (.float .f64) := by kernel_rfl
    simp [convert, run_underlying hs, run_underlying ht, Conv.floatToFloat, hd, Question.forced]
  · generalize w.tape w.drawn (.nanConv .f64 y) = t
    show canonRaw ((t % 2) * 2 ^ 63 + 0x7ff0000000000000 + 1 + (t / 2) % (2 ^ 52 - 1)) = _
    have hb : (t / 2) % (2 ^ 52 - 1) < 2 ^ 52 - 1 := Nat.mod_lt _ (by decide)
    generalize (t / 2) % (2 ^ 52 - 1) = u at *
    have ht : t % 2 < 2 := Nat.mod_lt _ (by decide)
    generalize t % 2 = v at *
    rw [canonRaw_eq (by omega), if_pos]
    show (9218868437227405312 : Nat) < _ % 9223372036854775808
    omega
end Go.Proofs.Ytepgmeinbililaa
