/- Walks: Check, the program's and the reference's. Conditions: the masses lie in memory. -/
import Derived.Test.YtjapohjfheielaaC0
namespace Go.Proofs.Ytjapohjfheielaa
open Go.RowKit

theorem ret_i {k : IntKind} {a b : Int} (h : a = b) : Ending.returned (.int k a) = .returned (.int k b) := by rw [h]

set_option maxHeartbeats 1000000 in
theorem checkP_any (v : Value) (n : Nat) (S : Nat → Int) (w : World) (hv : MIn w v n S) (hn : n ≤ 4398046511104) :
    Calls Try.prog 18 #[v] w fun e w' => e = .returned (.int .i64 (chk n S)) ∧ w = w' := by
  have HV := Lib.hid hv
  obtain ⟨A, cap, rfl⟩ := hv.form
  clear hv
  by_cases h8 : 8 < n
  · rw [chk_long h8]
    go_enter Try.func18, Try.ntmps18
    go_wp2
    go_ret
    exact ⟨rfl, rfl⟩
  · have H8 : Hid (n ≤ 8) := Lib.hid (by omega)
    obtain ⟨C, hC⟩ : ∃ C, chk n S = C := ⟨_, rfl⟩
    rw [hC]
    have HC := Lib.hid hC
    clear hC
    go_enter Try.func18, Try.ntmps18
    go_wp2
    go_loop [10] (fun vi => ∃ i : Nat, i ≤ n ∧ vi = .int .i64 i ∧ ∀ j, j < i → okM S j) (fun vi => n - (intOf vi).toNat)
    case atStart => exact ⟨0, Nat.zero_le _, rfl, fun j hj => by omega⟩
    case round =>
      obtain ⟨i, hi, rfl, hb⟩ := hrel
      have HB := Lib.hid hb
      clear hb
      by_cases hin : i < n
      · obtain ⟨g, o, rfl, hl⟩ := HV.out.cell hin
        have hm := hl (i * 7) (by omega)
        have HL := Lib.hid hl
        clear hl
        obtain ⟨m, hm'⟩ : ∃ m, S (i * 7) = m := ⟨_, rfl⟩
        rw [hm'] at hm
        have HM := Lib.hid hm'
        clear hm'
        by_cases hm1 : m < 1
        · go_wp2
          go_ret
          exact ⟨ret_i (by rw [← HC.out, chk_bad H8.out hin (fun h => by have := h.1.1; rw [HM.out] at this; omega)]), rfl⟩
        by_cases hm2 : 1048576 < m
        · go_wp2
          go_ret
          exact ⟨ret_i (by rw [← HC.out, chk_bad H8.out hin (fun h => by have := h.1.2; rw [HM.out] at this; omega)]), rfl⟩
        go_wp2
        go_loop [27] (fun vi => ∃ k : Nat, k ≤ 3 ∧ vi = .int .i64 k ∧ ∀ j, j < k → okX (S (i * 7 + 1 + j)) ∧ okP (S (i * 7 + 4 + j))) (fun vi => 3 - (intOf vi).toNat)
        case atStart => exact ⟨0, Nat.zero_le _, rfl, fun j hj => by omega⟩
        case round =>
          obtain ⟨k, hk, rfl, hb⟩ := hrel
          have HK := Lib.hid hb
          clear hb
          by_cases hk3 : k < 3
          · have hx := HL.out (i * 7 + 1 + k) (by omega)
            have hp := HL.out (i * 7 + 4 + k) (by omega)
            obtain ⟨x, hx'⟩ : ∃ x, S (i * 7 + 1 + k) = x := ⟨_, rfl⟩
            obtain ⟨p, hp'⟩ : ∃ p, S (i * 7 + 4 + k) = p := ⟨_, rfl⟩
            rw [hx'] at hx
            rw [hp'] at hp
            have HX := Lib.hid hx'
            have HP := Lib.hid hp'
            clear hx' hp'
            rw [show o + (i * 7 + 1 + k) = o + i * 7 + 1 + k from by omega] at hx
            rw [show o + (i * 7 + 4 + k) = o + i * 7 + 4 + k from by omega] at hp
            by_cases t1 : x < -1099511627776
            · go_wp2
              go_ret
              exact ⟨ret_i (by rw [← HC.out, chk_bad H8.out hin (fun h => by have := (h.2 k hk3).1.1; rw [HX.out] at this; omega)]), rfl⟩
            by_cases t2 : 1099511627776 < x
            · go_wp2
              go_ret
              exact ⟨ret_i (by rw [← HC.out, chk_bad H8.out hin (fun h => by have := (h.2 k hk3).1.2; rw [HX.out] at this; omega)]), rfl⟩
            by_cases t3 : p < -1125899906842624
            · go_wp2
              go_ret
              exact ⟨ret_i (by rw [← HC.out, chk_bad H8.out hin (fun h => by have := (h.2 k hk3).2.1; rw [HP.out] at this; omega)]), rfl⟩
            by_cases t4 : 1125899906842624 < p
            · go_wp2
              go_ret
              exact ⟨ret_i (by rw [← HC.out, chk_bad H8.out hin (fun h => by have := (h.2 k hk3).2.2; rw [HP.out] at this; omega)]), rfl⟩
            have HQ : Hid (okX x ∧ okP p) := Lib.hid ⟨⟨by omega, by omega⟩, ⟨by omega, by omega⟩⟩
            go_wp2
            go_round
            case rel => exact ⟨k + 1, by omega, by go_num, fun j hj => by
              rcases Nat.lt_or_ge j k with h | h
              · exact HK.out j h
              · obtain rfl : j = k := by omega
                rw [HX.out, HP.out]; exact HQ.out⟩
            case measure => first | (simp [intOf]; done) | (simp [intOf]; omega)
          · have HK2 : Hid (okM S i) := Lib.hid ⟨⟨by rw [HM.out]; omega, by rw [HM.out]; omega⟩, fun j hj => HK.out j (by omega)⟩
            go_wp2
            go_round
            case rel => exact ⟨i + 1, by omega, by go_num, fun j hj => by
              rcases Nat.lt_or_ge j i with h | h
              · exact HB.out j h
              · obtain rfl : j = i := by omega
                exact HK2.out⟩
            case measure => first | (simp [intOf]; done) | (simp [intOf]; omega)
      · go_wp2
        go_ret
        exact ⟨ret_i (by rw [← HC.out, chk_good H8.out (fun j hj => HB.out j (by omega))]), rfl⟩

set_option maxHeartbeats 1000000 in
theorem checkR_any (v : Value) (n : Nat) (S : Nat → Int) (w : World) (hv : MIn w v n S) (hn : n ≤ 4398046511104) :
    Calls Try.prog 19 #[v] w fun e w' => e = .returned (.int .i64 (chk n S)) ∧ w = w' := by
  have HV := Lib.hid hv
  obtain ⟨A, cap, rfl⟩ := hv.form
  clear hv
  by_cases h8 : 8 < n
  · rw [chk_long h8]
    go_enter Try.func19, Try.ntmps19
    go_wp2
    go_ret
    exact ⟨rfl, rfl⟩
  · have H8 : Hid (n ≤ 8) := Lib.hid (by omega)
    obtain ⟨C, hC⟩ : ∃ C, chk n S = C := ⟨_, rfl⟩
    rw [hC]
    have HC := Lib.hid hC
    clear hC
    go_enter Try.func19, Try.ntmps19
    go_wp2
    go_loop [3] (fun vi => ∃ i : Nat, i ≤ n ∧ vi = .int .i64 i ∧ ∀ j, j < i → okM S j) (fun vi => n - (intOf vi).toNat)
    case atStart => exact ⟨0, Nat.zero_le _, rfl, fun j hj => by omega⟩
    case round =>
      obtain ⟨i, hi, rfl, hb⟩ := hrel
      have HB := Lib.hid hb
      clear hb
      by_cases hin : i < n
      · obtain ⟨g, o, rfl, hl⟩ := HV.out.cell hin
        have hm := hl (i * 7) (by omega)
        have HL := Lib.hid hl
        clear hl
        obtain ⟨m, hm'⟩ : ∃ m, S (i * 7) = m := ⟨_, rfl⟩
        rw [hm'] at hm
        have HM := Lib.hid hm'
        clear hm'
        by_cases hm1 : m < 1
        · go_wp2
          go_ret
          exact ⟨ret_i (by rw [← HC.out, chk_bad H8.out hin (fun h => by have := h.1.1; rw [HM.out] at this; omega)]), rfl⟩
        by_cases hm2 : 1048576 < m
        · go_wp2
          go_ret
          exact ⟨ret_i (by rw [← HC.out, chk_bad H8.out hin (fun h => by have := h.1.2; rw [HM.out] at this; omega)]), rfl⟩
        go_wp2
        go_loop [4] (fun vi => ∃ k : Nat, k ≤ 3 ∧ vi = .int .i64 k ∧ ∀ j, j < k → okX (S (i * 7 + 1 + j)) ∧ okP (S (i * 7 + 4 + j))) (fun vi => 3 - (intOf vi).toNat)
        case atStart => exact ⟨0, Nat.zero_le _, rfl, fun j hj => by omega⟩
        case round =>
          obtain ⟨k, hk, rfl, hb⟩ := hrel
          have HK := Lib.hid hb
          clear hb
          by_cases hk3 : k < 3
          · have hx := HL.out (i * 7 + 1 + k) (by omega)
            have hp := HL.out (i * 7 + 4 + k) (by omega)
            obtain ⟨x, hx'⟩ : ∃ x, S (i * 7 + 1 + k) = x := ⟨_, rfl⟩
            obtain ⟨p, hp'⟩ : ∃ p, S (i * 7 + 4 + k) = p := ⟨_, rfl⟩
            rw [hx'] at hx
            rw [hp'] at hp
            have HX := Lib.hid hx'
            have HP := Lib.hid hp'
            clear hx' hp'
            rw [show o + (i * 7 + 1 + k) = o + i * 7 + 1 + k from by omega] at hx
            rw [show o + (i * 7 + 4 + k) = o + i * 7 + 4 + k from by omega] at hp
            by_cases t1 : x < -1099511627776
            · go_wp2
              go_ret
              exact ⟨ret_i (by rw [← HC.out, chk_bad H8.out hin (fun h => by have := (h.2 k hk3).1.1; rw [HX.out] at this; omega)]), rfl⟩
            by_cases t2 : 1099511627776 < x
            · go_wp2
              go_ret
              exact ⟨ret_i (by rw [← HC.out, chk_bad H8.out hin (fun h => by have := (h.2 k hk3).1.2; rw [HX.out] at this; omega)]), rfl⟩
            by_cases t3 : p < -1125899906842624
            · go_wp2
              go_ret
              exact ⟨ret_i (by rw [← HC.out, chk_bad H8.out hin (fun h => by have := (h.2 k hk3).2.1; rw [HP.out] at this; omega)]), rfl⟩
            by_cases t4 : 1125899906842624 < p
            · go_wp2
              go_ret
              exact ⟨ret_i (by rw [← HC.out, chk_bad H8.out hin (fun h => by have := (h.2 k hk3).2.2; rw [HP.out] at this; omega)]), rfl⟩
            have HQ : Hid (okX x ∧ okP p) := Lib.hid ⟨⟨by omega, by omega⟩, ⟨by omega, by omega⟩⟩
            go_wp2
            go_round
            case rel => exact ⟨k + 1, by omega, by go_num, fun j hj => by
              rcases Nat.lt_or_ge j k with h | h
              · exact HK.out j h
              · obtain rfl : j = k := by omega
                rw [HX.out, HP.out]; exact HQ.out⟩
            case measure => first | (simp [intOf]; done) | (simp [intOf]; omega)
          · have HK2 : Hid (okM S i) := Lib.hid ⟨⟨by rw [HM.out]; omega, by rw [HM.out]; omega⟩, fun j hj => HK.out j (by omega)⟩
            go_wp2
            go_round
            case rel => exact ⟨i + 1, by omega, by go_num, fun j hj => by
              rcases Nat.lt_or_ge j i with h | h
              · exact HB.out j h
              · obtain rfl : j = i := by omega
                exact HK2.out⟩
            case measure => first | (simp [intOf]; done) | (simp [intOf]; omega)
      · go_wp2
        go_ret
        exact ⟨ret_i (by rw [← HC.out, chk_good H8.out (fun j hj => HB.out j (by omega))]), rfl⟩
end Go.Proofs.Ytjapohjfheielaa
