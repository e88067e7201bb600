/- Walks: the checksum, its digits, a number told, a text cut. Conditions: as each says. -/
import Derived.Test.YtjfnkdgkkoffeaaRows
import Derived.Test.YtjfnkdgkkoffeaaS1
import Derived.WalkKit
import Derived.WalkSpells
import Derived.WalkLawsBesides
import Derived.Deep.Light
import Derived.Lib.Hide
namespace Go.Proofs.Ytjfnkdgkkoffeaa
open Go.RowKit SealLaw

def Drawn (w w' : World) : Prop := ∃ m, w' = w.drewN m
theorem Drawn.refl (w : World) : Drawn w w := ⟨0, rfl⟩
theorem ret_i {k : IntKind} {a b : Int} (h : a = b) : Ending.returned (.int k a) = .returned (.int k b) := by rw [h]
def bL (s : ByteArray) (i : Nat) : Nat := (s.data.toList.getD i 0).toNat
theorem bL_lt (s : ByteArray) (i : Nat) : bL s i < 256 := (s.data.toList.getD i 0).toNat_lt
theorem bL_at (s : ByteArray) (i : Nat) : ∀ h : i < s.size, (((s[i]'h).toNat : Int)) = (bL s i : Int) := fun h => by
  unfold bL
  have : s.data.toList.getD i 0 = s[i]'h := by
    have h' : i < s.data.toList.length := by simpa using h
    rw [List.getD_eq_getElem?_getD, List.getElem?_eq_getElem h']; rfl
  rw [this]
theorem wrap64u (n : Nat) (h : n < 18446744073709551616) : IntKind.u64.wrap (n : Int) = (n : Int) := by
  simp [IntKind.wrap, IntKind.bits, IntKind.signed]; omega
theorem step_run (x y : Nat) (hx : x < 2147483647) (hy : y < 256) : (IntKind.u64.wrap (IntKind.u64.wrap (IntKind.u64.wrap ((x : Int) * 257) + (y : Int)) + 1)).tmod 2147483647 = (((x * 257 + y + 1) % P : Nat) : Int) := by
  rw [show (x : Int) * 257 = ((x * 257 : Nat) : Int) from by omega, wrap64u _ (by omega), show ((x * 257 : Nat) : Int) + (y : Int) = ((x * 257 + y : Nat) : Int) from by omega, wrap64u _ (by omega),
    show ((x * 257 + y : Nat) : Int) + 1 = ((x * 257 + y + 1 : Nat) : Int) from by omega, wrap64u _ (by omega)]
  rfl
theorem take_all (s : ByteArray) : s.data.toList.take s.size = s.data.toList := List.take_of_length_le (by simp)
theorem sum_take (b0 : Nat) {s : ByteArray} {k : Nat} (h : k < s.size) : sumN b0 (s.data.toList.take (k + 1)) = (sumN b0 (s.data.toList.take k) * 257 + bL s k + 1) % P := by
  have h' : k < s.data.toList.length := by simpa using h
  rw [List.take_succ_eq_append_getElem h', sumN_append]
  unfold bL
  rw [List.getD_eq_getElem?_getD, List.getElem?_eq_getElem h']; rfl

set_option maxHeartbeats 2000000 in
theorem sum_any (b : Nat) (hb : b < 4294967296) (s : ByteArray) (hs : s.size ≤ 140737488351232) (w : World) :
    Calls Try.prog 15 #[.int .u32 b, .string s] w fun e w' => e = .returned (.int .u32 (sumN (b % P) s.data.toList)) ∧ Drawn w w' := by
  have hPb : IntKind.u64.wrap (b : Int) = (b : Int) := wrap64u b (by omega)
  have hrem : (b : Int).tmod 2147483647 = ((b % P : Nat) : Int) := by rw [Int.tmod_eq_emod_of_nonneg (by omega)]; rfl
  have h0 : b % P < P := Nat.mod_lt _ (by decide)
  obtain ⟨b0, hb0⟩ : ∃ b0, b % P = b0 := ⟨_, rfl⟩
  rw [hb0] at hrem h0
  rw [hb0]
  clear hb0
  go_enter Try.func15, Try.ntmps15
  go_wp2
  go_loopw [5, 12] (fun vs vi wr => ∃ k : Nat, k ≤ s.size ∧ vi = .int .i64 k ∧ vs = .int .u64 (sumN b0 (s.data.toList.take k)) ∧ Drawn w wr) (fun _ vi _ => s.size - (intOf vi).toNat)
  case atStart => exact ⟨0, Nat.zero_le _, rfl, rfl, Drawn.refl _⟩
  case round =>
    obtain ⟨k, hk, rfl, rfl, ⟨md, rfl⟩⟩ := hrel
    have hlt := sumN_lt h0 (s.data.toList.take k)
    by_cases h : k < s.size
    · have hst := sum_take b0 h
      have hstep := step_run (sumN b0 (s.data.toList.take k)) (bL s k) (by unfold P at hlt; omega) (bL_lt s k)
      obtain ⟨x, hx⟩ : ∃ x, sumN b0 (s.data.toList.take k) = x := ⟨_, rfl⟩
      rw [hx] at hst hstep hlt
      rw [hx]
      have HS := Lib.hid hst
      have hbl := bL_at s k
      clear hx hst
      obtain ⟨y, hy⟩ : ∃ y, bL s k = y := ⟨_, rfl⟩
      rw [hy] at hbl hstep
      have HY := Lib.hid hy
      have HG := Lib.hid hstep
      clear hstep
      have hyl : y < 256 := by rw [← hy]; exact bL_lt s k
      clear hy
      go_wp2
      go_roundw
      case rel => exact ⟨k + 1, by omega, by first | rfl | go_num, by rw [HS.out, HY.out, HG.out], ⟨_, rfl⟩⟩
      case measure => first | (simp [intOf]; done) | (simp [intOf]; omega)
    · have hkl : k = s.size := by omega
      have htk := take_all s
      subst hkl
      have hmod : ((sumN b0 (s.data.toList.take s.size) : Nat) : Int) % 4294967296 = ((sumN b0 s.data.toList : Nat) : Int) := by
        rw [Int.emod_eq_of_lt (by omega) (by unfold P at hlt; omega), htk]
      have HM := Lib.hid hmod
      clear htk hlt hmod
      go_wp2
      go_ret
      exact ⟨ret_i HM.out, ⟨_, rfl⟩⟩

set_option maxHeartbeats 2000000 in
theorem refSum_any (b : Nat) (hb : b < 4294967296) (s : ByteArray) (hs : s.size ≤ 140737488351232) (w : World) :
    Calls Try.prog 21 #[.int .u32 b, .string s] w fun e w' => e = .returned (.int .u32 (sumN (b % P) s.data.toList)) ∧ Drawn w w' := by
  have hPb : IntKind.u64.wrap (b : Int) = (b : Int) := wrap64u b (by omega)
  have hrem : (b : Int).tmod 2147483647 = ((b % P : Nat) : Int) := by rw [Int.tmod_eq_emod_of_nonneg (by omega)]; rfl
  have h0 : b % P < P := Nat.mod_lt _ (by decide)
  obtain ⟨b0, hb0⟩ : ∃ b0, b % P = b0 := ⟨_, rfl⟩
  rw [hb0] at hrem h0
  rw [hb0]
  clear hb0
  go_enter Try.func21, Try.ntmps21
  go_wp2
  go_loopw [5, 6] (fun vs vi wr => ∃ k : Nat, k ≤ s.size ∧ vi = .int .i64 k ∧ vs = .int .u64 (sumN b0 (s.data.toList.take k)) ∧ Drawn w wr) (fun _ vi _ => s.size - (intOf vi).toNat)
  case atStart => exact ⟨0, Nat.zero_le _, rfl, rfl, Drawn.refl _⟩
  case round =>
    obtain ⟨k, hk, rfl, rfl, ⟨md, rfl⟩⟩ := hrel
    have hlt := sumN_lt h0 (s.data.toList.take k)
    by_cases h : k < s.size
    · have hst := sum_take b0 h
      have hstep := step_run (sumN b0 (s.data.toList.take k)) (bL s k) (by unfold P at hlt; omega) (bL_lt s k)
      obtain ⟨x, hx⟩ : ∃ x, sumN b0 (s.data.toList.take k) = x := ⟨_, rfl⟩
      rw [hx] at hst hstep hlt
      rw [hx]
      have HS := Lib.hid hst
      have hbl := bL_at s k
      clear hx hst
      obtain ⟨y, hy⟩ : ∃ y, bL s k = y := ⟨_, rfl⟩
      rw [hy] at hbl hstep
      have HY := Lib.hid hy
      have HG := Lib.hid hstep
      clear hstep
      have hyl : y < 256 := by rw [← hy]; exact bL_lt s k
      clear hy
      go_wp2
      go_roundw
      case rel => exact ⟨k + 1, by omega, by first | rfl | go_num, by rw [HS.out, HY.out, HG.out], ⟨_, rfl⟩⟩
      case measure => first | (simp [intOf]; done) | (simp [intOf]; omega)
    · have hkl : k = s.size := by omega
      have htk := take_all s
      subst hkl
      have hmod : ((sumN b0 (s.data.toList.take s.size) : Nat) : Int) % 4294967296 = ((sumN b0 s.data.toList : Nat) : Int) := by
        rw [Int.emod_eq_of_lt (by omega) (by unfold P at hlt; omega), htk]
      have HM := Lib.hid hmod
      clear htk hlt hmod
      go_wp2
      go_ret
      exact ⟨ret_i HM.out, ⟨_, rfl⟩⟩
end Go.Proofs.Ytjfnkdgkkoffeaa
