/- Walks: a number told by its digits. Conditions: eight letters. -/
import Derived.Test.YtjfnkdgkkoffeaaR1
namespace Go.Proofs.Ytjfnkdgkkoffeaa
open Go.RowKit SealLaw

theorem numL_cons (n : Nat) (c : UInt8) (l : Bytes) : numL n (c :: l) = match value c with
    | some v => numL (n * 16 + v) l
    | none => none := rfl
theorem drop_cons {s : ByteArray} {k : Nat} (h : k < s.size) : s.data.toList.drop k = s.data.toList.getD k 0 :: s.data.toList.drop (k + 1) := by
  have h' : k < s.data.toList.length := by simpa using h
  rw [List.drop_eq_getElem_cons h', List.getD_eq_getElem?_getD, List.getElem?_eq_getElem h']; rfl
theorem val_bL (s : ByteArray) (k : Nat) : value (s.data.toList.getD k 0) = if 48 ≤ bL s k ∧ bL s k ≤ 57 then some (bL s k - 48) else if 97 ≤ bL s k ∧ bL s k ≤ 102 then some (bL s k - 87) else none := rfl
theorem wrap32u (n : Nat) (h : n < 4294967296) : IntKind.u32.wrap (n : Int) = n := by
  simp [IntKind.wrap, IntKind.bits, IntKind.signed]; omega
theorem or_digit (m v : Nat) (hm : m < 268435456) (hv : v < 16) : bits .or .u32 ((m : Int) * 16) ((v : Nat) : Int) = ((m * 16 + v : Nat) : Int) := by
  have ofInt : ∀ k n : Nat, BitVec.ofInt k (n : Int) = BitVec.ofNat k n := fun k n => by apply BitVec.eq_of_toNat_eq; simp
  rw [show (m : Int) * 16 = ((m * 16 : Nat) : Int) from by omega]
  unfold bits
  simp only []
  rw [show IntKind.u32.bits = 32 from rfl, ofInt, ofInt, BitVec.toNat_or, BitVec.toNat_ofNat, BitVec.toNat_ofNat, Nat.mod_eq_of_lt (show m * 16 < 2 ^ 32 from by omega), Nat.mod_eq_of_lt (show v < 2 ^ 32 from by omega)]
  have h1 := Nat.or_mod_two_pow (a := m * 16) (b := v) (n := 4)
  have h2 := Nat.or_div_two_pow (a := m * 16) (b := v) (n := 4)
  rw [show m * 16 % 2 ^ 4 = 0 from by omega, Nat.zero_or, Nat.mod_eq_of_lt (show v < 2 ^ 4 from by omega)] at h1
  rw [show m * 16 / 2 ^ 4 = m from by omega, show v / 2 ^ 4 = 0 from by omega, Nat.or_zero] at h2
  have h3 := Nat.div_add_mod (m * 16 ||| v) (2 ^ 4)
  rw [h1, h2] at h3
  rw [← h3]
  rw [show 2 ^ 4 * m + v = m * 16 + v from by omega]
  exact wrap32u _ (by omega)
theorem ret_t2 {a b : Int} {c d : Bool} {k : IntKind} (h : a = b) (h2 : c = d) : Ending.returned (.tuple #[.int k a, .bool c]) = .returned (.tuple #[.int k b, .bool d]) := by rw [h, h2]

set_option maxHeartbeats 4000000 in
theorem num_any (s : ByteArray) (hs : s.size = 8) (w : World) :
    Calls Try.prog 18 #[.string s] w fun e w' => e = .returned (.tuple #[.int .u32 ((numL 0 s.data.toList).getD 0 : Nat), .bool (numL 0 s.data.toList).isSome]) ∧ Drawn w w' := by
  have h8 : ((s.size : Int) == 8) = true := by rw [hs]; rfl
  go_enter Try.func18, Try.ntmps18
  go_wp2
  go_loopw [4, 9] (fun vn vi wr => ∃ k m : Nat, k ≤ s.size ∧ vi = .int .i64 k ∧ vn = .int .u32 m ∧ m < 16 ^ k ∧ numL m (s.data.toList.drop k) = numL 0 s.data.toList ∧ Drawn w wr) (fun _ vi _ => s.size - (intOf vi).toNat)
  case atStart => exact ⟨0, 0, Nat.zero_le _, rfl, rfl, by decide, rfl, Drawn.refl _⟩
  case round =>
    obtain ⟨k, m, hk, rfl, rfl, hm, hn, ⟨md, rfl⟩⟩ := hrel
    by_cases h : k < s.size
    · have hcons := drop_cons h
      rw [hcons] at hn
      have hbl := bL_at s k
      obtain ⟨y, hy⟩ : ∃ y, bL s k = y := ⟨_, rfl⟩
      have hyl : y < 256 := by rw [← hy]; exact bL_lt s k
      rw [hy] at hbl
      have hval := val_bL s k
      rw [hy] at hval
      have hm2 : m < 268435456 := Nat.lt_of_lt_of_le hm (by
        have : 16 ^ k ≤ 16 ^ 7 := Nat.pow_le_pow_right (by omega) (by omega)
        exact this)
      have hm3 : ∀ v, v < 16 → m * 16 + v < 16 ^ (k + 1) := by intro v hv; rw [Nat.pow_succ]; omega
      have HM3 := Lib.hid hm3
      have HN := Lib.hid hn
      have HV := Lib.hid hval
      have HK := Lib.hid hm
      clear hn hval hy hm3 hm hcons
      by_cases h1 : 48 ≤ y ∧ y ≤ 57
      · have a1 : decide ((48 : Int) ≤ (y : Int)) = true := by rw [decide_eq_true_eq]; omega
        have a2 : decide ((y : Int) ≤ (57 : Int)) = true := by rw [decide_eq_true_eq]; omega
        have hor := or_digit m (y - 48) hm2 (by omega)
        have hsub : ((y : Int) - 48) = ((y - 48 : Nat) : Int) := by omega
        have HO := Lib.hid hor
        have hnext : numL (m * 16 + (y - 48)) (s.data.toList.drop (k + 1)) = numL 0 s.data.toList := by
          have h3 := HN.out
          rw [numL_cons] at h3
          rw [HV.out, if_pos h1] at h3
          exact h3
        have HX := Lib.hid hnext
        clear hor hnext
        go_wp2
        go_roundw
        case rel => exact ⟨k + 1, m * 16 + (y - 48), by omega, by first | rfl | go_num, by rw [HO.out], HM3.out _ (by omega), HX.out, ⟨_, rfl⟩⟩
        case measure => first | (simp [intOf]; done) | (simp [intOf]; omega)
      · by_cases h2 : 97 ≤ y ∧ y ≤ 102
        · have a1 : decide ((48 : Int) ≤ (y : Int)) = true := by rw [decide_eq_true_eq]; omega
          have a2 : decide ((y : Int) ≤ (57 : Int)) = false := by rw [decide_eq_false_iff_not]; omega
          have a3 : decide ((97 : Int) ≤ (y : Int)) = true := by rw [decide_eq_true_eq]; omega
          have a4 : decide ((y : Int) ≤ (102 : Int)) = true := by rw [decide_eq_true_eq]; omega
          have hor := or_digit m (y - 87) hm2 (by omega)
          have hsub : ((y : Int) - 97) + 10 = ((y - 87 : Nat) : Int) := by omega
          have HO := Lib.hid hor
          have hnext : numL (m * 16 + (y - 87)) (s.data.toList.drop (k + 1)) = numL 0 s.data.toList := by
            have h3 := HN.out
            rw [numL_cons] at h3
            rw [HV.out, if_neg h1, if_pos h2] at h3
            exact h3
          have HX := Lib.hid hnext
          clear hor hnext
          go_wp2
          go_roundw
          case rel => exact ⟨k + 1, m * 16 + (y - 87), by omega, by first | rfl | go_num, by rw [← HO.out], HM3.out _ (by omega), HX.out, ⟨_, rfl⟩⟩
          case measure => first | (simp [intOf]; done) | (simp [intOf]; omega)
        · have hnone : numL 0 s.data.toList = none := by
            have h3 := HN.out
            rw [numL_cons] at h3
            rw [HV.out, if_neg h1, if_neg h2] at h3
            exact h3.symm
          have HNN := Lib.hid hnone
          clear hnone
          rcases (show y < 48 ∨ (48 ≤ y ∧ 57 < y ∧ y < 97) ∨ (48 ≤ y ∧ 57 < y ∧ 97 ≤ y ∧ 102 < y) from by omega) with h3 | h3 | h3
          · have a1 : decide ((48 : Int) ≤ (y : Int)) = false := by rw [decide_eq_false_iff_not]; omega
            have a3 : decide ((97 : Int) ≤ (y : Int)) = false := by rw [decide_eq_false_iff_not]; omega
            go_wp2
            go_ret2
            exact ⟨ret_t2 (by rw [HNN.out]; rfl) (by rw [HNN.out]; rfl), ⟨_, rfl⟩⟩
          · have a1 : decide ((48 : Int) ≤ (y : Int)) = true := by rw [decide_eq_true_eq]; omega
            have a2 : decide ((y : Int) ≤ (57 : Int)) = false := by rw [decide_eq_false_iff_not]; omega
            have a3 : decide ((97 : Int) ≤ (y : Int)) = false := by rw [decide_eq_false_iff_not]; omega
            go_wp2
            go_ret2
            exact ⟨ret_t2 (by rw [HNN.out]; rfl) (by rw [HNN.out]; rfl), ⟨_, rfl⟩⟩
          · have a1 : decide ((48 : Int) ≤ (y : Int)) = true := by rw [decide_eq_true_eq]; omega
            have a2 : decide ((y : Int) ≤ (57 : Int)) = false := by rw [decide_eq_false_iff_not]; omega
            have a3 : decide ((97 : Int) ≤ (y : Int)) = true := by rw [decide_eq_true_eq]; omega
            have a4 : decide ((y : Int) ≤ (102 : Int)) = false := by rw [decide_eq_false_iff_not]; omega
            go_wp2
            go_ret2
            exact ⟨ret_t2 (by rw [HNN.out]; rfl) (by rw [HNN.out]; rfl), ⟨_, rfl⟩⟩
    · have hkl : k = s.size := by omega
      have hdone : numL 0 s.data.toList = some m := by
        rw [← hn, List.drop_of_length_le (by simp; omega)]; rfl
      have HD := Lib.hid hdone
      clear hn hdone hm
      subst hkl
      go_wp2
      go_ret2
      exact ⟨ret_t2 (by rw [HD.out]; rfl) (by rw [HD.out]; rfl), ⟨_, rfl⟩⟩

set_option maxHeartbeats 4000000 in
theorem refNum_any (s : ByteArray) (hs : s.size = 8) (w : World) :
    Calls Try.prog 20 #[.string s] w fun e w' => e = .returned (.tuple #[.int .u32 ((numL 0 s.data.toList).getD 0 : Nat), .bool (numL 0 s.data.toList).isSome]) ∧ Drawn w w' := by
  have h8 : ((s.size : Int) == 8) = true := by rw [hs]; rfl
  go_enter Try.func20, Try.ntmps20
  go_wp2
  go_loopw [4, 5] (fun vn vi wr => ∃ k m : Nat, k ≤ s.size ∧ vi = .int .i64 k ∧ vn = .int .u32 m ∧ m < 16 ^ k ∧ numL m (s.data.toList.drop k) = numL 0 s.data.toList ∧ Drawn w wr) (fun _ vi _ => s.size - (intOf vi).toNat)
  case atStart => exact ⟨0, 0, Nat.zero_le _, rfl, rfl, by decide, rfl, Drawn.refl _⟩
  case round =>
    obtain ⟨k, m, hk, rfl, rfl, hm, hn, ⟨md, rfl⟩⟩ := hrel
    by_cases h : k < s.size
    · have hcons := drop_cons h
      rw [hcons] at hn
      have hbl := bL_at s k
      obtain ⟨y, hy⟩ : ∃ y, bL s k = y := ⟨_, rfl⟩
      have hyl : y < 256 := by rw [← hy]; exact bL_lt s k
      rw [hy] at hbl
      have hval := val_bL s k
      rw [hy] at hval
      have hm2 : m < 268435456 := Nat.lt_of_lt_of_le hm (by
        have : 16 ^ k ≤ 16 ^ 7 := Nat.pow_le_pow_right (by omega) (by omega)
        exact this)
      have hm3 : ∀ v, v < 16 → m * 16 + v < 16 ^ (k + 1) := by intro v hv; rw [Nat.pow_succ]; omega
      have HM3 := Lib.hid hm3
      have HN := Lib.hid hn
      have HV := Lib.hid hval
      have HK := Lib.hid hm
      clear hn hval hy hm3 hm hcons
      by_cases h1 : 48 ≤ y ∧ y ≤ 57
      · have a1 : decide ((48 : Int) ≤ (y : Int)) = true := by rw [decide_eq_true_eq]; omega
        have a2 : decide ((y : Int) ≤ (57 : Int)) = true := by rw [decide_eq_true_eq]; omega
        have hor := or_digit m (y - 48) hm2 (by omega)
        have hsub : ((y : Int) - 48) = ((y - 48 : Nat) : Int) := by omega
        have HO := Lib.hid hor
        have hnext : numL (m * 16 + (y - 48)) (s.data.toList.drop (k + 1)) = numL 0 s.data.toList := by
          have h3 := HN.out
          rw [numL_cons] at h3
          rw [HV.out, if_pos h1] at h3
          exact h3
        have HX := Lib.hid hnext
        clear hor hnext
        go_wp2
        go_roundw
        case rel => exact ⟨k + 1, m * 16 + (y - 48), by omega, by first | rfl | go_num, by rw [HO.out], HM3.out _ (by omega), HX.out, ⟨_, rfl⟩⟩
        case measure => first | (simp [intOf]; done) | (simp [intOf]; omega)
      · by_cases h2 : 97 ≤ y ∧ y ≤ 102
        · have a1 : decide ((48 : Int) ≤ (y : Int)) = true := by rw [decide_eq_true_eq]; omega
          have a2 : decide ((y : Int) ≤ (57 : Int)) = false := by rw [decide_eq_false_iff_not]; omega
          have a3 : decide ((97 : Int) ≤ (y : Int)) = true := by rw [decide_eq_true_eq]; omega
          have a4 : decide ((y : Int) ≤ (102 : Int)) = true := by rw [decide_eq_true_eq]; omega
          have hor := or_digit m (y - 87) hm2 (by omega)
          have hsub : ((y : Int) - 97) + 10 = ((y - 87 : Nat) : Int) := by omega
          have HO := Lib.hid hor
          have hnext : numL (m * 16 + (y - 87)) (s.data.toList.drop (k + 1)) = numL 0 s.data.toList := by
            have h3 := HN.out
            rw [numL_cons] at h3
            rw [HV.out, if_neg h1, if_pos h2] at h3
            exact h3
          have HX := Lib.hid hnext
          clear hor hnext
          go_wp2
          go_roundw
          case rel => exact ⟨k + 1, m * 16 + (y - 87), by omega, by first | rfl | go_num, by rw [← HO.out], HM3.out _ (by omega), HX.out, ⟨_, rfl⟩⟩
          case measure => first | (simp [intOf]; done) | (simp [intOf]; omega)
        · have hnone : numL 0 s.data.toList = none := by
            have h3 := HN.out
            rw [numL_cons] at h3
            rw [HV.out, if_neg h1, if_neg h2] at h3
            exact h3.symm
          have HNN := Lib.hid hnone
          clear hnone
          rcases (show y < 48 ∨ (48 ≤ y ∧ 57 < y ∧ y < 97) ∨ (48 ≤ y ∧ 57 < y ∧ 97 ≤ y ∧ 102 < y) from by omega) with h3 | h3 | h3
          · have a1 : decide ((48 : Int) ≤ (y : Int)) = false := by rw [decide_eq_false_iff_not]; omega
            have a3 : decide ((97 : Int) ≤ (y : Int)) = false := by rw [decide_eq_false_iff_not]; omega
            go_wp2
            go_ret2
            exact ⟨ret_t2 (by rw [HNN.out]; rfl) (by rw [HNN.out]; rfl), ⟨_, rfl⟩⟩
          · have a1 : decide ((48 : Int) ≤ (y : Int)) = true := by rw [decide_eq_true_eq]; omega
            have a2 : decide ((y : Int) ≤ (57 : Int)) = false := by rw [decide_eq_false_iff_not]; omega
            have a3 : decide ((97 : Int) ≤ (y : Int)) = false := by rw [decide_eq_false_iff_not]; omega
            go_wp2
            go_ret2
            exact ⟨ret_t2 (by rw [HNN.out]; rfl) (by rw [HNN.out]; rfl), ⟨_, rfl⟩⟩
          · have a1 : decide ((48 : Int) ≤ (y : Int)) = true := by rw [decide_eq_true_eq]; omega
            have a2 : decide ((y : Int) ≤ (57 : Int)) = false := by rw [decide_eq_false_iff_not]; omega
            have a3 : decide ((97 : Int) ≤ (y : Int)) = true := by rw [decide_eq_true_eq]; omega
            have a4 : decide ((y : Int) ≤ (102 : Int)) = false := by rw [decide_eq_false_iff_not]; omega
            go_wp2
            go_ret2
            exact ⟨ret_t2 (by rw [HNN.out]; rfl) (by rw [HNN.out]; rfl), ⟨_, rfl⟩⟩
    · have hkl : k = s.size := by omega
      have hdone : numL 0 s.data.toList = some m := by
        rw [← hn, List.drop_of_length_le (by simp; omega)]; rfl
      have HD := Lib.hid hdone
      clear hn hdone hm
      subst hkl
      go_wp2
      go_ret2
      exact ⟨ret_t2 (by rw [HD.out]; rfl) (by rw [HD.out]; rfl), ⟨_, rfl⟩⟩
end Go.Proofs.Ytjfnkdgkkoffeaa
