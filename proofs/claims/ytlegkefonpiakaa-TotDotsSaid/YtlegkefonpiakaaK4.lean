/- Walks: the product of two words. Conditions: none. -/
import Derived.Test.YtlegkefonpiakaaK3
namespace Go.Proofs.Ytlegkefonpiakaa
open Go.RowKit

theorem mul_parts (x0 x1 y0 y1 P00 P01 P10 P11 w0 t w1 : Nat) (h00 : x0 * y0 = P00) (h01 : x0 * y1 = P01) (h10 : x1 * y0 = P10) (h11 : x1 * y1 = P11) (hx0 : x0 < 4294967296) (hy0 : y0 < 4294967296) (hx1 : x1 < 4294967296) (hy1 : y1 < 4294967296)
    (h1 : P00 / 4294967296 = w0) (h2 : P10 + w0 = t) (h3 : t % 4294967296 + P01 = w1) :
    P00 < 18446744073709551616 ∧ P01 < 18446744073709551616 ∧ P10 < 18446744073709551616 ∧ P11 < 18446744073709551616 ∧ t < 18446744073709551616 ∧ w1 < 18446744073709551616 ∧ P11 + t / 4294967296 < 18446744073709551616 ∧ P11 + t / 4294967296 + w1 / 4294967296 < 18446744073709551616 ∧
    P11 + t / 4294967296 + w1 / 4294967296 = (x0 + 4294967296 * x1) * (y0 + 4294967296 * y1) / 18446744073709551616 := by
  have b : ∀ a c : Nat, a < 4294967296 → c < 4294967296 → a * c ≤ 4294967295 * 4294967295 := fun a c h h' => Nat.mul_le_mul (by omega) (by omega)
  have b00 := b x0 y0 hx0 hy0
  have b01 := b x0 y1 hx0 hy1
  have b10 := b x1 y0 hx1 hy0
  have b11 := b x1 y1 hx1 hy1
  have e : (x0 + 4294967296 * x1) * (y0 + 4294967296 * y1) = P00 + 4294967296 * P01 + 4294967296 * P10 + 18446744073709551616 * P11 := by
    rw [Nat.add_mul, Nat.mul_add, Nat.mul_add, ← h00, ← h01, ← h10, ← h11]
    have a1 : x0 * (4294967296 * y1) = 4294967296 * (x0 * y1) := by rw [Nat.mul_left_comm]
    have a2 : 4294967296 * x1 * y0 = 4294967296 * (x1 * y0) := Nat.mul_assoc _ _ _
    have a3 : 4294967296 * x1 * (4294967296 * y1) = 18446744073709551616 * (x1 * y1) := by
      rw [Nat.mul_assoc, Nat.mul_left_comm x1, ← Nat.mul_assoc]
    rw [a1, a2, a3]; omega
  rw [e]
  rw [h00] at b00
  rw [h01] at b01
  rw [h10] at b10
  rw [h11] at b11
  clear h00 h01 h10 h11 e b
  omega

set_option maxRecDepth 20000 in
theorem mul_any (x y : Nat) (hx : x < 18446744073709551616) (hy : y < 18446744073709551616) (w : World) :
    Calls Try.prog 50 #[.int .u64 (x : Int), .int .u64 (y : Int)] w fun e w' => e = .returned (.tuple #[.int .u64 ((x * y / 18446744073709551616 : Nat) : Int), .int .u64 ((x * y % 18446744073709551616 : Nat) : Int)]) ∧ w = w' := by
  have ex := and_low32n x
  have ey := and_low32n y
  have dx : (x : Int) / 2 ^ 32 = ((x / 4294967296 : Nat) : Int) := by omega
  have dy : (y : Int) / 2 ^ 32 = ((y / 4294967296 : Nat) : Int) := by omega
  have dx' : (x : Int) / 4294967296 = ((x / 4294967296 : Nat) : Int) := by omega
  have dy' : (y : Int) / 4294967296 = ((y / 4294967296 : Nat) : Int) := by omega
  have hlow : IntKind.u64.wrap ((x : Int) * (y : Int)) = ((x * y % 18446744073709551616 : Nat) : Int) := by
    rw [← Int.natCast_mul]; simp [IntKind.wrap, IntKind.bits, IntKind.signed]
  obtain ⟨L, hL⟩ : ∃ L, x * y % 18446744073709551616 = L := ⟨_, rfl⟩
  rw [hL] at hlow ⊢
  have hxx : x = x % 4294967296 + 4294967296 * (x / 4294967296) := by omega
  have hyy : y = y % 4294967296 + 4294967296 * (y / 4294967296) := by omega
  have hH : Hid (x * y / 18446744073709551616 = (x % 4294967296 + 4294967296 * (x / 4294967296)) * (y % 4294967296 + 4294967296 * (y / 4294967296)) / 18446744073709551616) := Lib.hid (by rw [← hxx, ← hyy])
  rw [hH.out]
  obtain ⟨x0, hx0⟩ : ∃ a, x % 4294967296 = a := ⟨_, rfl⟩
  obtain ⟨x1, hx1⟩ : ∃ a, x / 4294967296 = a := ⟨_, rfl⟩
  obtain ⟨y0, hy0⟩ : ∃ a, y % 4294967296 = a := ⟨_, rfl⟩
  obtain ⟨y1, hy1⟩ : ∃ a, y / 4294967296 = a := ⟨_, rfl⟩
  obtain ⟨P00, h00⟩ : ∃ a, x0 * y0 = a := ⟨_, rfl⟩
  obtain ⟨P01, h01⟩ : ∃ a, x0 * y1 = a := ⟨_, rfl⟩
  obtain ⟨P10, h10⟩ : ∃ a, x1 * y0 = a := ⟨_, rfl⟩
  obtain ⟨P11, h11⟩ : ∃ a, x1 * y1 = a := ⟨_, rfl⟩
  obtain ⟨w0, hw0⟩ : ∃ a, P00 / 4294967296 = a := ⟨_, rfl⟩
  obtain ⟨t, ht⟩ : ∃ a, P10 + w0 = a := ⟨_, rfl⟩
  obtain ⟨w1, hw1⟩ : ∃ a, t % 4294967296 + P01 = a := ⟨_, rfl⟩
  obtain ⟨q1, q2, q3, q4, q5, q6, q7, q8, q9⟩ := mul_parts x0 x1 y0 y1 P00 P01 P10 P11 w0 t w1 h00 h01 h10 h11 (by omega) (by omega) (by omega) (by omega) hw0 ht hw1
  rw [hx0, hx1, hy0, hy1, ← q9]
  rw [hx0] at ex
  rw [hy0] at ey
  rw [hx1] at dx dx'
  rw [hy1] at dy dy'
  have p1 : IntKind.u64.wrap ((x0 : Int) * (y0 : Int)) = (P00 : Int) := by rw [← Int.natCast_mul, h00]; exact wrap_u64_nat _ q1
  have p2 : IntKind.u64.wrap ((x1 : Int) * (y0 : Int)) = (P10 : Int) := by rw [← Int.natCast_mul, h10]; exact wrap_u64_nat _ q3
  have p3 : IntKind.u64.wrap ((x0 : Int) * (y1 : Int)) = (P01 : Int) := by rw [← Int.natCast_mul, h01]; exact wrap_u64_nat _ q2
  have p4 : IntKind.u64.wrap ((x1 : Int) * (y1 : Int)) = (P11 : Int) := by rw [← Int.natCast_mul, h11]; exact wrap_u64_nat _ q4
  have s0 : (P00 : Int) / 2 ^ 32 = (w0 : Int) := by omega
  have s0' : (P00 : Int) / 4294967296 = (w0 : Int) := by omega
  have p5 : IntKind.u64.wrap ((P10 : Int) + (w0 : Int)) = (t : Int) := by rw [← Int.natCast_add, ht]; exact wrap_u64_nat _ q5
  have et := and_low32n t
  obtain ⟨t0, ht0⟩ : ∃ a, t % 4294967296 = a := ⟨_, rfl⟩
  obtain ⟨t1, ht1⟩ : ∃ a, t / 4294967296 = a := ⟨_, rfl⟩
  rw [ht0] at et hw1
  rw [ht1] at q7 q8 ⊢
  have s1 : (t : Int) / 2 ^ 32 = (t1 : Int) := by omega
  have s1' : (t : Int) / 4294967296 = (t1 : Int) := by omega
  have p6 : IntKind.u64.wrap ((t0 : Int) + (P01 : Int)) = (w1 : Int) := by rw [← Int.natCast_add, hw1]; exact wrap_u64_nat _ q6
  obtain ⟨w2, hw2⟩ : ∃ a, w1 / 4294967296 = a := ⟨_, rfl⟩
  rw [hw2] at q8 ⊢
  have s2 : (w1 : Int) / 2 ^ 32 = (w2 : Int) := by omega
  have s2' : (w1 : Int) / 4294967296 = (w2 : Int) := by omega
  obtain ⟨u1, hu1⟩ : ∃ a, P11 + t1 = a := ⟨_, rfl⟩
  rw [hu1] at q7 q8 ⊢
  have p7 : IntKind.u64.wrap ((P11 : Int) + (t1 : Int)) = (u1 : Int) := by rw [← Int.natCast_add, hu1]; exact wrap_u64_nat _ q7
  obtain ⟨u2, hu2⟩ : ∃ a, u1 + w2 = a := ⟨_, rfl⟩
  rw [hu2] at q8 ⊢
  have p8 : IntKind.u64.wrap ((u1 : Int) + (w2 : Int)) = (u2 : Int) := by rw [← Int.natCast_add, hu2]; exact wrap_u64_nat _ q8
  clear hx hy hL hxx hyy hH hx0 hx1 hy0 hy1 h00 h01 h10 h11 hw0 ht hw1 q1 q2 q3 q4 q5 q6 q7 q8 q9 ht0 ht1 hw2 hu1 hu2
  go_enter Try.func50, Try.ntmps50
  go_wp2
  go_ret2
  exact ⟨rfl, rfl⟩
end Go.Proofs.Ytlegkefonpiakaa
