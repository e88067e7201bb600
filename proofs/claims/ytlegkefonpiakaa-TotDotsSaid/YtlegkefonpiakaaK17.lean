/- Walks: Round of the accumulator. Conditions: it lies in a block; 0, or 2^53 or more in magnitude. -/
import Derived.Test.YtlegkefonpiakaaK16
import Derived.Test.YtlegkefonpiakaaK9
import Derived.Deep.WholeRow
namespace Go
theorem or_bit (n b : Nat) (hb : b < 2) (hn : 2 * n + b < 18446744073709551616) : bits .or .u64 ((2 * n : Nat) : Int) (b : Int) = ((2 * n + b : Nat) : Int) := by
  unfold bits
  simp only []
  rw [show IntKind.u64.bits = 64 from rfl]
  rw [ofInt_nat, ofInt_nat, BitVec.toNat_or, BitVec.toNat_ofNat, BitVec.toNat_ofNat]
  rw [Nat.mod_eq_of_lt (by omega), Nat.mod_eq_of_lt (by omega)]
  have h2 := Nat.two_pow_add_eq_or_of_lt (i := 1) (b := b) (by omega) n
  rw [Nat.pow_one] at h2
  rw [← h2, wrap_u64_nat _ (by omega)]
end Go
namespace Go.Proofs.Ytlegkefonpiakaa
open Go.RowKit

theorem Try.size53 : (Try.prog.info? 53).map (·.size) = some 24 := by kernel_rfl

theorem top_bits {u H : Nat} (h1 : 2 ^ H ≤ u) (h2 : u < 2 ^ (H + 1)) : limb (u : Int) (H / 64) / 2 ^ (H % 64) = 1 ∧ limb (u : Int) (H / 64) < 2 ^ (H % 64 + 1) := by
  rw [limb_nat]
  have e : H = 64 * (H / 64) + H % 64 := by omega
  have a : u / 2 ^ (64 * (H / 64)) < 2 ^ (H % 64 + 1) := by
    apply Nat.div_lt_of_lt_mul
    rw [← Nat.pow_add, show 64 * (H / 64) + (H % 64 + 1) = H + 1 from by omega]; exact h2
  have b : 2 ^ (H % 64) ≤ u / 2 ^ (64 * (H / 64)) := by
    rw [Nat.le_div_iff_mul_le (Nat.two_pow_pos _), ← Nat.pow_add, show H % 64 + 64 * (H / 64) = H from by omega]; exact h1
  have c : 2 ^ (H % 64 + 1) ≤ 18446744073709551616 := by
    have : (2 : Nat) ^ (H % 64 + 1) ≤ 2 ^ 64 := Nat.pow_le_pow_right (by omega) (by omega)
    exact Nat.le_trans this (by decide)
  rw [Nat.mod_eq_of_lt (by omega)]
  refine ⟨?_, a⟩
  have d : u / 2 ^ (64 * (H / 64)) / 2 ^ (H % 64) < 2 := by
    apply Nat.div_lt_of_lt_mul
    rw [← Nat.pow_succ]; exact a
  have f : 1 ≤ u / 2 ^ (64 * (H / 64)) / 2 ^ (H % 64) := by
    rw [Nat.le_div_iff_mul_le (Nat.two_pow_pos _), Nat.one_mul]; exact b
  omega
theorem above_zero {u H j : Nat} (h2 : u < 2 ^ (H + 1)) (hj : H / 64 < j) : limb (u : Int) j = 0 := by
  rw [limb_nat]
  have : u / 2 ^ (64 * j) = 0 := by
    apply Nat.div_eq_of_lt
    exact Nat.lt_of_lt_of_le h2 (Nat.pow_le_pow_right (by omega) (by omega))
  rw [this]
theorem bits_next (u k : Nat) : u / 2 ^ k = 2 * (u / 2 ^ (k + 1)) + u / 2 ^ k % 2 := by
  rw [Nat.pow_succ, ← Nat.div_div_eq_div_mul]; omega
theorem bits_lt {u H k : Nat} (h2 : u < 2 ^ (H + 1)) (h53 : H + 1 ≤ k + 53) : u / 2 ^ k < 9007199254740992 := by
  apply Nat.div_lt_of_lt_mul
  have e : (9007199254740992 : Nat) = 2 ^ 53 := by decide
  rw [e, ← Nat.pow_add]
  exact Nat.lt_of_lt_of_le h2 (Nat.pow_le_pow_right (by omega) (by omega))
theorem lead_any {L p : Nat} (h1 : L / 2 ^ p = 1) (hL : L < 18446744073709551616) (w : World) :
    Calls Try.prog 42 #[.int .u64 (L : Int)] w fun e w' => e = .returned (.int .i64 (63 - (p : Int))) ∧ w = w' := by
  have hb : Lib.bitLen L = p + 1 := by
    have h2 : 2 ^ p ≤ L := by
      rcases Nat.lt_or_ge L (2 ^ p) with h | h
      · rw [Nat.div_eq_of_lt h] at h1; omega
      · exact h
    rw [Lib.bitLen_shift p L h2 hL, h1]; rfl
  have h := Try.bits_LeadingZeros64 (L : Int) w (by omega) (by omega)
  rw [Int.toNat_natCast, hb] at h
  have e : (64 - ((p + 1 : Nat) : Int)) = 63 - (p : Int) := by omega
  rw [e] at h
  exact h.mono fun _ _ ⟨h1, h2⟩ => ⟨h1, h2.symm⟩

set_option maxRecDepth 20000 in
set_option maxHeartbeats 2000000 in
theorem round_pos (g u H : Nat) (w : World) (ha : AccR w g (limb (u : Int))) (hr : Rng (u : Int)) (h1 : 2 ^ H ≤ u) (h2 : u < 2 ^ (H + 1)) (hH : 53 ≤ H) (hH2 : H < 1535) :
    Calls Try.prog 32 #[.pointer (some ⟨g, 0, none⟩)] w fun e w' => e = .returned (.float .f64 (Ieee.rne u (H - 52) + 4503599627370496 * (H - 2))) ∧ Below w.heap.size w w' := by
  have hs := sgn_any g u w ha hr
  have hu : 0 < u := Nat.lt_of_lt_of_le (Nat.two_pow_pos _) h1
  have hsg : (u : Int).sign = 1 := Int.sign_eq_one_of_pos (by omega)
  rw [hsg] at hs
  have HS := Lib.hid hs
  obtain ⟨cur, hg, hcs, hsz⟩ := ha
  have HG := Lib.hid hg
  have HI : Hid ((Try.prog.info? 53).map (·.size) = some cur.size) := Lib.hid (by rw [hsz]; exact Try.size53)
  have HZ := Lib.hid hsz
  have H1 : Hid (cur.all (·.oneCell') = true) := Lib.hid (by
    rw [Array.all_eq_true_iff_forall_mem]
    intro x hx
    obtain ⟨i, hi, rfl⟩ := Array.mem_iff_getElem.1 hx
    have := hcs i (by omega)
    rw [Array.getElem?_eq_getElem hi] at this
    injection this with this
    rw [this]; rfl)
  have HA : Hid (AccR (w.alloc (.cells cur 53)) w.heap.size (limb (u : Int))) := Lib.hid ⟨cur, heap_alloc_new w _, hcs, hsz⟩
  have HB : Hid (Below w.heap.size w (w.alloc (.cells cur 53))) := Lib.hid ((Below.refl w.heap.size w).alloc (Nat.le_refl _) _)
  have HX : Hid (2 ^ H ≤ u ∧ u < 2 ^ (H + 1)) := Lib.hid ⟨h1, h2⟩
  obtain ⟨D, hD⟩ : ∃ D, Ieee.rne u (H - 52) + 4503599627370496 * (H - 2) = D := ⟨_, rfl⟩
  rw [hD]
  have HD := Lib.hid hD
  clear hs hsg hr hg hcs hsz hu h1 h2 hD
  go_enter Try.func32, Try.ntmps32
  go_wp2_with (first
    | (go_at_call 33; refine HS.out.mono ?_; rintro e w' ⟨rfl, rfl⟩)
    | (refine wpList_load_row rfl 53 _ rfl g rfl 53 cur (0, 0) _ HG.out Try.underlying53 rfl HI.out ?_)
    | (refine wpList_store_row rfl 53 _ _ rfl w.heap.size cur rfl rfl 53 _ (heap_alloc_new w _) HI.out (by rw [HZ.out]; rfl) H1.out ?_; rw [World.setRow_alloc_new]))
  generalize hw1 : w.alloc (.cells cur 53) = w1 at HA HB ⊢
  clear HS HG HI HZ H1 hw1
  obtain ⟨T, hT⟩ : ∃ T, H / 64 = T := ⟨_, rfl⟩
  obtain ⟨p, hp⟩ : ∃ p, H % 64 = p := ⟨_, rfl⟩
  have hHT : H = 64 * T + p := by omega
  have hp64 : p < 64 := by omega
  have hTH := top_bits HX.out.1 HX.out.2
  rw [hT, hp] at hTH
  have HLD := Lib.hid (fun v => lead_any hTH.1 (limb_lt _ _) v)
  have HNZ : Hid (limb (u : Int) T ≠ 0) := Lib.hid (fun h => by rw [h, Nat.zero_div] at hTH; omega)
  have HUP : Hid (∀ j, T < j → limb (u : Int) j = 0) := Lib.hid (fun j hj => above_zero HX.out.2 (by omega))
  have HBIT : Hid (∀ (k : Nat) (K : Int), k < 1536 → K = (k : Int) → ∀ R, u / 2 ^ k % 2 = R → Calls Try.prog 43 #[.pointer (some ⟨w.heap.size, 0, none⟩), .int .i64 K] w1 fun e w' => e = .returned (.int .u64 (R : Int)) ∧ w1 = w') := Lib.hid (fun k K hk hK R hR => by subst hK; subst hR; exact bit_any w.heap.size u k w1 HA.out hk)
  have hT2 : T ≤ 23 := by omega
  have hT3 : 0 ≤ T := by omega
  have HEQ := Lib.hid hHT
  have HLO := Lib.hid hH
  have HHI := Lib.hid hH2
  clear hTH hT hp hHT hH hH2
  go_loopw [7] (fun vt wq => ∃ t : Nat, T ≤ t ∧ t ≤ 23 ∧ vt = .int .i64 t ∧ w1 = wq) (fun vt _ => (intOf vt).toNat)
  case atStart => exact ⟨23, hT2, by omega, rfl, rfl⟩
  case round =>
    obtain ⟨t, ht1, ht2, rfl, rfl⟩ := hrel
    have ct := HA.out.cell (show t < 24 by omega)
    have hti : (t : Int) < 24 := by omega
    by_cases hz : limb (u : Int) t = 0
    · rw [hz] at ct
      have ct : w1.cell? ⟨w.heap.size, t, none⟩ = some (.int .u64 0) := ct
      have hne : T ≠ t := fun e => HNZ.out (by rw [e]; exact hz)
      obtain ⟨s, rfl⟩ : ∃ s, t = s + 1 := ⟨t - 1, by omega⟩
      clear hz
      go_wp2
      go_roundw
      case rel => exact ⟨s, by omega, by omega, by go_num, trivial⟩
      case measure => first | (simp [intOf]; done) | (simp [intOf]; omega)
    · have htT : t = T := by
        rcases Nat.lt_or_ge T t with h | h
        · exact absurd (HUP.out t h) hz
        · omega
      subst htT
      have HLD2 := HLD
      obtain ⟨L, hL⟩ : ∃ L, limb (u : Int) t = L := ⟨_, rfl⟩
      rw [hL] at ct HLD2 hz
      have hLne : ((L : Int) == 0) = false := by rw [beq_eq_false_iff_ne]; omega
      clear hz hL
      go_wp2_with (first | (go_at_call 42; refine (HLD2.out _).mono ?_; rintro e w' ⟨rfl, rfl⟩))
      rw [show (t : Int) * 64 + 63 - (63 - (p : Int)) = (H : Int) from by have := HEQ.out; omega]
      have hH1 : (53 : Int) ≤ (H : Int) := by have := HLO.out; omega
      have hH2 : (H : Int) < 1535 := by have := HHI.out; omega
      clear HLD HLD2 HNZ HUP ct hLne ht1 ht2 hti hT2 hT3 HEQ
      go_loopw [9, 10] (fun vn vi wq => ∃ i : Nat, i ≤ 53 ∧ vi = .int .i64 i ∧ vn = .int .u64 ((u / 2 ^ (H + 1 - i) : Nat) : Int) ∧ w1 = wq) (fun _ vi _ => 53 - (intOf vi).toNat)
      case atStart => exact ⟨0, by omega, rfl, by rw [Nat.sub_zero, Nat.div_eq_of_lt HX.out.2]; rfl, rfl⟩
      case round =>
        obtain ⟨i, hi, rfl, rfl, rfl⟩ := hrel
        by_cases hin : i < 53
        · have hlo := HLO.out
          have hNlt := bits_lt (k := H + 1 - i) HX.out.2 (by omega)
          have hnx := bits_next u (H - i)
          rw [show H - i + 1 = H + 1 - i from by omega] at hnx
          have hb := HBIT.out (H - i) ((H : Int) - (i : Int)) (by have := HHI.out; omega) (by omega)
          have hb2 : u / 2 ^ (H - i) % 2 < 2 := Nat.mod_lt _ (by omega)
          have HM : Hid (u / 2 ^ (H + 1 - (i + 1)) = u / 2 ^ (H - i)) := Lib.hid (by rw [show H + 1 - (i + 1) = H - i from by omega])
          obtain ⟨N, hN⟩ : ∃ N, u / 2 ^ (H + 1 - i) = N := ⟨_, rfl⟩
          obtain ⟨M, hM⟩ : ∃ M, u / 2 ^ (H - i) = M := ⟨_, rfl⟩
          rw [hN] at hNlt hnx ⊢
          rw [hM] at hnx hb hb2 HM
          obtain ⟨b, hbb⟩ : ∃ b, M % 2 = b := ⟨_, rfl⟩
          have HB2 := Lib.hid (hb b hbb)
          rw [hbb] at hnx hb2
          have hor := or_bit N b hb2 (by omega)
          rw [← hnx] at hor
          have hsh : IntKind.u64.wrap ((N : Int) * 2 ^ 1) = ((2 * N : Nat) : Int) := by
            rw [show (N : Int) * 2 ^ 1 = ((2 * N : Nat) : Int) from by omega]; exact wrap_u64_nat _ (by omega)
          have hsh2 : IntKind.u64.wrap ((N : Int) * 2) = ((2 * N : Nat) : Int) := by
            rw [show (N : Int) * 2 = ((2 * N : Nat) : Int) from by omega]; exact wrap_u64_nat _ (by omega)
          have hii : (i : Int) < 53 := by omega
          clear hb hbb hNlt hnx hb2 hN hM hlo hin
          obtain ⟨N2, hN2⟩ : ∃ N2 : Int, ((2 * N : Nat) : Int) = N2 := ⟨_, rfl⟩
          rw [hN2] at hor hsh hsh2
          clear hN2
          go_wp2_with (first | (go_at_call 43; refine HB2.out.mono ?_; rintro e w' ⟨rfl, rfl⟩))
          go_roundw
          case rel => exact ⟨i + 1, by omega, by go_num, by rw [HM.out], trivial⟩
          case measure => first | (simp [intOf]; done) | (simp [intOf]; omega)
        · have hi53 : i = 53 := by omega
          subst hi53
          clear hin hi
          have hlo := HLO.out
          have hhi := HHI.out
          have hrb := round_bits u (H - 53)
          rw [show H - 53 + 1 = H - 52 from by omega] at hrb
          have hNhi := bits_lt (k := H - 52) HX.out.2 (by omega)
          have hNlo : 4503599627370496 ≤ u / 2 ^ (H - 52) := by
            rw [Nat.le_div_iff_mul_le (Nat.two_pow_pos _), show (4503599627370496 : Nat) = 2 ^ 52 from by decide, ← Nat.pow_add, show 52 + (H - 52) = H from by omega]
            exact HX.out.1
          have hb := HBIT.out (H - 53) ((H : Int) - 53) (by omega) (by omega)
          have hbl := below_any w.heap.size u (H - 53) w1 HA.out (by omega)
          rw [show ((H - 53 : Nat) : Int) = (H : Int) - 53 from by omega] at hbl
          rw [show H + 1 - 53 = H - 52 from by omega]
          have ho := and_one (u / 2 ^ (H - 52))
          have HLX : Hid (∀ n, Ieee.rne u (H - 52) = n → 4503599627370496 ≤ n → n ≤ 9007199254740992 → ∀ v, Calls Try.prog 45 #[.float .f64 (floatOfInt .f64 (n : Int)), .int .i64 ((H : Int) - 52 - 1024)] v fun e w' => e = .returned (.float .f64 D) ∧ v = w') := Lib.hid (fun n hn h1 h2 v => by
            have := ldexp_whole h1 h2 hlo (by omega) v
            rw [← hn, HD.out] at this
            rw [← hn]; exact this)
          obtain ⟨c, hc⟩ : ∃ c, u / 2 ^ (H - 53) % 2 = c := ⟨_, rfl⟩
          have hb := hb c hc
          obtain ⟨B, hB⟩ : ∃ B, decide (u % 2 ^ (H - 53) ≠ 0) = B := ⟨_, rfl⟩
          obtain ⟨o, hoo⟩ : ∃ o, u / 2 ^ (H - 52) % 2 = o := ⟨_, rfl⟩
          have hc2 : c < 2 := by omega
          have ho2 : o < 2 := by omega
          rw [hB] at hbl
          rw [hoo] at ho hrb
          rw [hc] at hrb
          have hrb : Ieee.rne u (H - 52) = u / 2 ^ (H - 52) + (if c = 1 ∧ (o = 1 ∨ B = true) then 1 else 0) := by
            rw [hrb]
            congr 1
            have hiff : (c = 1 ∧ (o = 1 ∨ u % 2 ^ (H - 53) ≠ 0)) ↔ (c = 1 ∧ (o = 1 ∨ B = true)) := by rw [← hB, decide_eq_true_iff]
            by_cases h : c = 1 ∧ (o = 1 ∨ u % 2 ^ (H - 53) ≠ 0)
            · rw [if_pos h, if_pos (hiff.1 h)]
            · rw [if_neg h, if_neg (fun h' => h (hiff.2 h'))]
          obtain ⟨N, hN⟩ : ∃ N, u / 2 ^ (H - 52) = N := ⟨_, rfl⟩
          rw [hN] at ho hrb hNhi hNlo ⊢
          have HB2 := Lib.hid hb
          have HBL := Lib.hid hbl
          have hup : IntKind.u64.wrap ((N : Int) + 1) = ((N + 1 : Nat) : Int) := by
            rw [show (N : Int) + 1 = ((N + 1 : Nat) : Int) from by omega]; exact wrap_u64_nat _ (by omega)
          clear hb hbl hc hB hoo hN hlo hhi
          rcases (show c = 0 ∨ c = 1 by omega) with rfl | rfl
          · rw [if_neg (by omega)] at hrb
            have HL := Lib.hid (HLX.out N hrb hNlo (by omega))
            obtain ⟨F, hF⟩ : ∃ F, floatOfInt .f64 (N : Int) = F := ⟨_, rfl⟩
            rw [hF] at HL
            clear hrb hNlo hNhi hup hc2 ho2
            go_wp2_with (first | (go_at_call 43; refine HB2.out.mono ?_; rintro e w' ⟨rfl, rfl⟩) | (go_at_call 45; refine (HL.out _).mono ?_; rintro e w' ⟨rfl, rfl⟩))
            go_ret
            exact ⟨rfl, HB.out⟩
          · rcases (show o = 0 ∨ o = 1 by omega) with rfl | rfl
            · cases B
              · rw [if_neg (by simp)] at hrb
                have HL := Lib.hid (HLX.out N hrb hNlo (by omega))
                obtain ⟨F, hF⟩ : ∃ F, floatOfInt .f64 (N : Int) = F := ⟨_, rfl⟩
                rw [hF] at HL
                clear hrb hNlo hNhi hup hc2 ho2
                go_wp2_with (first | (go_at_call 43; refine HB2.out.mono ?_; rintro e w' ⟨rfl, rfl⟩) | (go_at_call 44; refine HBL.out.mono ?_; rintro e w' ⟨rfl, rfl⟩) | (go_at_call 45; refine (HL.out _).mono ?_; rintro e w' ⟨rfl, rfl⟩))
                go_ret
                exact ⟨rfl, HB.out⟩
              · rw [if_pos (by simp)] at hrb
                have HL := Lib.hid (HLX.out (N + 1) hrb (by omega) (by omega))
                obtain ⟨N1, hN1⟩ : ∃ N1, N + 1 = N1 := ⟨_, rfl⟩
                rw [hN1] at HL hup
                obtain ⟨F, hF⟩ : ∃ F, floatOfInt .f64 (N1 : Int) = F := ⟨_, rfl⟩
                rw [hF] at HL
                clear hrb hNlo hNhi ho2 hN1
                go_wp2_with (first | (go_at_call 43; refine HB2.out.mono ?_; rintro e w' ⟨rfl, rfl⟩) | (go_at_call 44; refine HBL.out.mono ?_; rintro e w' ⟨rfl, rfl⟩) | (go_at_call 45; refine (HL.out _).mono ?_; rintro e w' ⟨rfl, rfl⟩))
                go_ret
                exact ⟨rfl, HB.out⟩
            · rw [if_pos (by simp)] at hrb
              have HL := Lib.hid (HLX.out (N + 1) hrb (by omega) (by omega))
              obtain ⟨N1, hN1⟩ : ∃ N1, N + 1 = N1 := ⟨_, rfl⟩
              rw [hN1] at HL hup
              obtain ⟨F, hF⟩ : ∃ F, floatOfInt .f64 (N1 : Int) = F := ⟨_, rfl⟩
              rw [hF] at HL
              clear hrb hNlo hNhi ho2 hN1
              go_wp2_with (first | (go_at_call 43; refine HB2.out.mono ?_; rintro e w' ⟨rfl, rfl⟩) | (go_at_call 44; refine HBL.out.mono ?_; rintro e w' ⟨rfl, rfl⟩) | (go_at_call 45; refine (HL.out _).mono ?_; rintro e w' ⟨rfl, rfl⟩))
              go_ret
              exact ⟨rfl, HB.out⟩

set_option maxRecDepth 20000 in
set_option maxHeartbeats 2000000 in
theorem round_neg (g u H : Nat) (w : World) (ha : AccR w g (limb (-(u : Int)))) (hr : Rng (-(u : Int))) (h1 : 2 ^ H ≤ u) (h2 : u < 2 ^ (H + 1)) (hH : 53 ≤ H) (hH2 : H < 1535) :
    Calls Try.prog 32 #[.pointer (some ⟨g, 0, none⟩)] w fun e w' => e = .returned (.float .f64 (negW (Ieee.rne u (H - 52) + 4503599627370496 * (H - 2)))) ∧ Below w.heap.size w w' := by
  have hs := sgn_any g (-(u : Int)) w ha hr
  have hu : 0 < u := Nat.lt_of_lt_of_le (Nat.two_pow_pos _) h1
  have hsg : (-(u : Int)).sign = -1 := Int.sign_eq_neg_one_of_neg (by omega)
  rw [hsg] at hs
  have HS := Lib.hid hs
  obtain ⟨cur, hg, hcs, hsz⟩ := ha
  have HG := Lib.hid hg
  have HI : Hid ((Try.prog.info? 53).map (·.size) = some cur.size) := Lib.hid (by rw [hsz]; exact Try.size53)
  have HZ := Lib.hid hsz
  have H1 : Hid (cur.all (·.oneCell') = true) := Lib.hid (by
    rw [Array.all_eq_true_iff_forall_mem]
    intro x hx
    obtain ⟨i, hi, rfl⟩ := Array.mem_iff_getElem.1 hx
    have := hcs i (by omega)
    rw [Array.getElem?_eq_getElem hi] at this
    injection this with this
    rw [this]; rfl)
  have HA : Hid (AccR (w.alloc (.cells cur 53)) w.heap.size (limb (-(u : Int)))) := Lib.hid ⟨cur, heap_alloc_new w _, hcs, hsz⟩
  have HB : Hid (Below w.heap.size w (w.alloc (.cells cur 53))) := Lib.hid ((Below.refl w.heap.size w).alloc (Nat.le_refl _) _)
  have HSZ : Hid (w.heap.size ≤ (w.alloc (.cells cur 53)).heap.size) := Lib.hid (by simp)
  have HX : Hid (2 ^ H ≤ u ∧ u < 2 ^ (H + 1)) := Lib.hid ⟨h1, h2⟩
  obtain ⟨D, hD⟩ : ∃ D, Ieee.rne u (H - 52) + 4503599627370496 * (H - 2) = D := ⟨_, rfl⟩
  have hDlt : D < 18446744073709551616 := by
    rw [← hD]
    have hb := bits_lt (k := H - 52) h2 (by omega)
    have : Ieee.rne u (H - 52) ≤ u / 2 ^ (H - 52) + 1 := by unfold Ieee.rne; split <;> omega
    omega
  have hun : ∀ u : World, (Op.unary .neg (.float .f64 D)).run Try.prog u = .ok (.float .f64 (negW D)) u := fun u => by
    have h := negFloat_eq hDlt
    rw [← h]; rfl
  rw [hD]
  have HD := Lib.hid hD
  obtain ⟨v, hv⟩ : ∃ v : Int, -(u : Int) = v := ⟨_, rfl⟩
  have HV : Hid (0 - v = (u : Int)) := Lib.hid (by omega)
  rw [hv] at HA
  clear hs hsg hr hg hcs hsz hu h1 h2 hD hDlt hv
  go_enter Try.func32, Try.ntmps32
  go_wp2_with (first
    | (go_at_call 33; refine HS.out.mono ?_; rintro e w' ⟨rfl, rfl⟩)
    | (refine wpList_load_row rfl 53 _ rfl g rfl 53 cur (0, 0) _ HG.out Try.underlying53 rfl HI.out ?_)
    | (refine wpList_store_row rfl 53 _ _ rfl w.heap.size cur rfl rfl 53 _ (heap_alloc_new w _) HI.out (by rw [HZ.out]; rfl) H1.out ?_; rw [World.setRow_alloc_new]))
  generalize hw1 : w.alloc (.cells cur 53) = w1 at HA HB HSZ ⊢
  clear HS HG HI HZ H1 hw1
  go_loopw [5, 6] (fun vc vi wr => ∃ i : Nat, i ≤ 24 ∧ vi = .int .i64 i ∧ vc = .int .u64 ((borrowAt 0 v i : Nat) : Int) ∧ AccR wr w.heap.size (fun j => if j < i then limb (0 - v) j else limb v j) ∧ Below w.heap.size w wr) (fun _ vi _ => 24 - (intOf vi).toNat)
  case atStart => exact ⟨0, by omega, rfl, by rw [borrow_zero]; rfl, HA.out.congr (fun j _ => if_neg (by omega)), HB.out⟩
  case round =>
    obtain ⟨i, hi24, rfl, rfl, hacc, hbb⟩ := hrel
    have HA2 := Lib.hid hacc
    have HB2 := Lib.hid hbb
    clear hacc hbb
    by_cases hin : i < 24
    · have ca := HA2.out.cell hin
      have fa := HA2.out.free i
      have hii : (i : Int) < 24 := by omega
      rw [if_neg (by omega)] at ca
      have hcall := call41 (limb 0 i) (limb v i) (borrowAt 0 v i) (borrow_le 0 v i)
      rw [← limb_sub 0 v i, ← borrow_next 0 v i] at hcall
      have hl0 : limb 0 i = 0 := by have h := limb_nat 0 i; rw [Nat.zero_div] at h; exact h
      rw [hl0, show ((0 : Nat) : Int) = 0 from rfl] at hcall
      have HNX : Hid (∀ j, j < 24 → (if j < i + 1 then limb (0 - v) j else limb v j) = updN (fun j => if j < i then limb (0 - v) j else limb v j) i (limb (0 - v) i) j) := Lib.hid (fun j hj => by
        unfold updN
        by_cases h1 : j = i
        · subst h1; rw [if_pos rfl, if_pos (by omega)]
        · rw [if_neg h1]
          by_cases h2 : j < i
          · rw [if_pos (by omega)]; exact (if_pos h2).symm
          · rw [if_neg (by omega)]; exact (if_neg h2).symm)
      obtain ⟨a, ha⟩ : ∃ a, limb v i = a := ⟨_, rfl⟩
      rw [ha] at ca hcall
      obtain ⟨c, hc⟩ : ∃ c, borrowAt 0 v i = c := ⟨_, rfl⟩
      rw [hc] at hcall ⊢
      obtain ⟨s, hs⟩ : ∃ s, limb (0 - v) i = s := ⟨_, rfl⟩
      rw [hs] at hcall HNX
      obtain ⟨c2, hc2⟩ : ∃ c, borrowAt 0 v (i + 1) = c := ⟨_, rfl⟩
      rw [hc2] at hcall
      have HC2 := Lib.hid hc2
      clear ha hc hs hc2 hl0
      go_wp2
      go_roundw
      case rel => exact ⟨i + 1, by omega, by go_num, by rw [HC2.out], (HA2.out.set i s).congr HNX.out, HB2.out.setCell (Nat.le_refl _) _⟩
      case measure => first | (simp [intOf]; done) | (simp [intOf]; omega)
    · have hin2 : i = 24 := by omega
      subst hin2
      have HAX : Hid (AccR wr w.heap.size (limb (u : Int))) := Lib.hid (HA2.out.congr (fun j hj => by rw [← HV.out]; exact (if_pos hj).symm))
      have HBW := HB2
      clear HA HA2 HB HB2 HSZ HV
      go_wp2
      obtain ⟨T, hT⟩ : ∃ T, H / 64 = T := ⟨_, rfl⟩
      obtain ⟨p, hp⟩ : ∃ p, H % 64 = p := ⟨_, rfl⟩
      have hHT : H = 64 * T + p := by omega
      have hp64 : p < 64 := by omega
      have hTH := top_bits HX.out.1 HX.out.2
      rw [hT, hp] at hTH
      have HLD := Lib.hid (fun v => lead_any hTH.1 (limb_lt _ _) v)
      have HNZ : Hid (limb (u : Int) T ≠ 0) := Lib.hid (fun h => by rw [h, Nat.zero_div] at hTH; omega)
      have HUP : Hid (∀ j, T < j → limb (u : Int) j = 0) := Lib.hid (fun j hj => above_zero HX.out.2 (by omega))
      have HBIT : Hid (∀ (k : Nat) (K : Int), k < 1536 → K = (k : Int) → ∀ R, u / 2 ^ k % 2 = R → Calls Try.prog 43 #[.pointer (some ⟨w.heap.size, 0, none⟩), .int .i64 K] wr fun e w' => e = .returned (.int .u64 (R : Int)) ∧ wr = w') := Lib.hid (fun k K hk hK R hR => by subst hK; subst hR; exact bit_any w.heap.size u k wr HAX.out hk)
      have hT2 : T ≤ 23 := by omega
      have hT3 : 0 ≤ T := by omega
      have HEQ := Lib.hid hHT
      have HLO := Lib.hid hH
      have HHI := Lib.hid hH2
      clear hTH hT hp hHT hH hH2
      go_loopw [7] (fun vt wq => ∃ t : Nat, T ≤ t ∧ t ≤ 23 ∧ vt = .int .i64 t ∧ wr = wq) (fun vt _ => (intOf vt).toNat)
      case atStart => exact ⟨23, hT2, by omega, rfl, rfl⟩
      case round =>
        obtain ⟨t, ht1, ht2, rfl, rfl⟩ := hrel
        have ct := HAX.out.cell (show t < 24 by omega)
        have hti : (t : Int) < 24 := by omega
        by_cases hz : limb (u : Int) t = 0
        · rw [hz] at ct
          have ct : wr.cell? ⟨w.heap.size, t, none⟩ = some (.int .u64 0) := ct
          have hne : T ≠ t := fun e => HNZ.out (by rw [e]; exact hz)
          obtain ⟨s, rfl⟩ : ∃ s, t = s + 1 := ⟨t - 1, by omega⟩
          clear hz
          go_wp2
          go_roundw
          case rel => exact ⟨s, by omega, by omega, by go_num, trivial⟩
          case measure => first | (simp [intOf]; done) | (simp [intOf]; omega)
        · have htT : t = T := by
            rcases Nat.lt_or_ge T t with h | h
            · exact absurd (HUP.out t h) hz
            · omega
          subst htT
          have HLD2 := HLD
          obtain ⟨L, hL⟩ : ∃ L, limb (u : Int) t = L := ⟨_, rfl⟩
          rw [hL] at ct HLD2 hz
          have hLne : ((L : Int) == 0) = false := by rw [beq_eq_false_iff_ne]; omega
          clear hz hL
          go_wp2_with (first | (go_at_call 42; refine (HLD2.out _).mono ?_; rintro e w' ⟨rfl, rfl⟩))
          rw [show (t : Int) * 64 + 63 - (63 - (p : Int)) = (H : Int) from by have := HEQ.out; omega]
          have hH1 : (53 : Int) ≤ (H : Int) := by have := HLO.out; omega
          have hH2 : (H : Int) < 1535 := by have := HHI.out; omega
          clear HLD HLD2 HNZ HUP ct hLne ht1 ht2 hti hT2 hT3 HEQ
          go_loopw [9, 10] (fun vn vi wq => ∃ i : Nat, i ≤ 53 ∧ vi = .int .i64 i ∧ vn = .int .u64 ((u / 2 ^ (H + 1 - i) : Nat) : Int) ∧ wr = wq) (fun _ vi _ => 53 - (intOf vi).toNat)
          case atStart => exact ⟨0, by omega, rfl, by rw [Nat.sub_zero, Nat.div_eq_of_lt HX.out.2]; rfl, rfl⟩
          case round =>
            obtain ⟨i, hi, rfl, rfl, rfl⟩ := hrel
            by_cases hin : i < 53
            · have hlo := HLO.out
              have hNlt := bits_lt (k := H + 1 - i) HX.out.2 (by omega)
              have hnx := bits_next u (H - i)
              rw [show H - i + 1 = H + 1 - i from by omega] at hnx
              have hb := HBIT.out (H - i) ((H : Int) - (i : Int)) (by have := HHI.out; omega) (by omega)
              have hb2 : u / 2 ^ (H - i) % 2 < 2 := Nat.mod_lt _ (by omega)
              have HM : Hid (u / 2 ^ (H + 1 - (i + 1)) = u / 2 ^ (H - i)) := Lib.hid (by rw [show H + 1 - (i + 1) = H - i from by omega])
              obtain ⟨N, hN⟩ : ∃ N, u / 2 ^ (H + 1 - i) = N := ⟨_, rfl⟩
              obtain ⟨M, hM⟩ : ∃ M, u / 2 ^ (H - i) = M := ⟨_, rfl⟩
              rw [hN] at hNlt hnx ⊢
              rw [hM] at hnx hb hb2 HM
              obtain ⟨b, hbb⟩ : ∃ b, M % 2 = b := ⟨_, rfl⟩
              have HB2 := Lib.hid (hb b hbb)
              rw [hbb] at hnx hb2
              have hor := or_bit N b hb2 (by omega)
              rw [← hnx] at hor
              have hsh : IntKind.u64.wrap ((N : Int) * 2 ^ 1) = ((2 * N : Nat) : Int) := by
                rw [show (N : Int) * 2 ^ 1 = ((2 * N : Nat) : Int) from by omega]; exact wrap_u64_nat _ (by omega)
              have hsh2 : IntKind.u64.wrap ((N : Int) * 2) = ((2 * N : Nat) : Int) := by
                rw [show (N : Int) * 2 = ((2 * N : Nat) : Int) from by omega]; exact wrap_u64_nat _ (by omega)
              have hii : (i : Int) < 53 := by omega
              clear hb hbb hNlt hnx hb2 hN hM hlo hin
              obtain ⟨N2, hN2⟩ : ∃ N2 : Int, ((2 * N : Nat) : Int) = N2 := ⟨_, rfl⟩
              rw [hN2] at hor hsh hsh2
              clear hN2
              go_wp2_with (first | (go_at_call 43; refine HB2.out.mono ?_; rintro e w' ⟨rfl, rfl⟩))
              go_roundw
              case rel => exact ⟨i + 1, by omega, by go_num, by rw [HM.out], trivial⟩
              case measure => first | (simp [intOf]; done) | (simp [intOf]; omega)
            · have hi53 : i = 53 := by omega
              subst hi53
              clear hin hi
              have hlo := HLO.out
              have hhi := HHI.out
              have hrb := round_bits u (H - 53)
              rw [show H - 53 + 1 = H - 52 from by omega] at hrb
              have hNhi := bits_lt (k := H - 52) HX.out.2 (by omega)
              have hNlo : 4503599627370496 ≤ u / 2 ^ (H - 52) := by
                rw [Nat.le_div_iff_mul_le (Nat.two_pow_pos _), show (4503599627370496 : Nat) = 2 ^ 52 from by decide, ← Nat.pow_add, show 52 + (H - 52) = H from by omega]
                exact HX.out.1
              have hb := HBIT.out (H - 53) ((H : Int) - 53) (by omega) (by omega)
              have hbl := below_any w.heap.size u (H - 53) wr HAX.out (by omega)
              rw [show ((H - 53 : Nat) : Int) = (H : Int) - 53 from by omega] at hbl
              rw [show H + 1 - 53 = H - 52 from by omega]
              have ho := and_one (u / 2 ^ (H - 52))
              have HLX : Hid (∀ n, Ieee.rne u (H - 52) = n → 4503599627370496 ≤ n → n ≤ 9007199254740992 → ∀ v, Calls Try.prog 45 #[.float .f64 (floatOfInt .f64 (n : Int)), .int .i64 ((H : Int) - 52 - 1024)] v fun e w' => e = .returned (.float .f64 D) ∧ v = w') := Lib.hid (fun n hn h1 h2 v => by
                have := ldexp_whole h1 h2 hlo (by omega) v
                rw [← hn, HD.out] at this
                rw [← hn]; exact this)
              obtain ⟨c, hc⟩ : ∃ c, u / 2 ^ (H - 53) % 2 = c := ⟨_, rfl⟩
              have hb := hb c hc
              obtain ⟨B, hB⟩ : ∃ B, decide (u % 2 ^ (H - 53) ≠ 0) = B := ⟨_, rfl⟩
              obtain ⟨o, hoo⟩ : ∃ o, u / 2 ^ (H - 52) % 2 = o := ⟨_, rfl⟩
              have hc2 : c < 2 := by omega
              have ho2 : o < 2 := by omega
              rw [hB] at hbl
              rw [hoo] at ho hrb
              rw [hc] at hrb
              have hrb : Ieee.rne u (H - 52) = u / 2 ^ (H - 52) + (if c = 1 ∧ (o = 1 ∨ B = true) then 1 else 0) := by
                rw [hrb]
                congr 1
                have hiff : (c = 1 ∧ (o = 1 ∨ u % 2 ^ (H - 53) ≠ 0)) ↔ (c = 1 ∧ (o = 1 ∨ B = true)) := by rw [← hB, decide_eq_true_iff]
                by_cases h : c = 1 ∧ (o = 1 ∨ u % 2 ^ (H - 53) ≠ 0)
                · rw [if_pos h, if_pos (hiff.1 h)]
                · rw [if_neg h, if_neg (fun h' => h (hiff.2 h'))]
              obtain ⟨N, hN⟩ : ∃ N, u / 2 ^ (H - 52) = N := ⟨_, rfl⟩
              rw [hN] at ho hrb hNhi hNlo ⊢
              have HB2 := Lib.hid hb
              have HBL := Lib.hid hbl
              have hup : IntKind.u64.wrap ((N : Int) + 1) = ((N + 1 : Nat) : Int) := by
                rw [show (N : Int) + 1 = ((N + 1 : Nat) : Int) from by omega]; exact wrap_u64_nat _ (by omega)
              clear hb hbl hc hB hoo hN hlo hhi
              rcases (show c = 0 ∨ c = 1 by omega) with rfl | rfl
              · rw [if_neg (by omega)] at hrb
                have HL := Lib.hid (HLX.out N hrb hNlo (by omega))
                obtain ⟨F, hF⟩ : ∃ F, floatOfInt .f64 (N : Int) = F := ⟨_, rfl⟩
                rw [hF] at HL
                clear hrb hNlo hNhi hup hc2 ho2
                go_wp2_with (first | (go_at_call 43; refine HB2.out.mono ?_; rintro e w' ⟨rfl, rfl⟩) | (go_at_call 45; refine (HL.out _).mono ?_; rintro e w' ⟨rfl, rfl⟩))
                go_ret
                exact ⟨rfl, HBW.out⟩
              · rcases (show o = 0 ∨ o = 1 by omega) with rfl | rfl
                · cases B
                  · rw [if_neg (by simp)] at hrb
                    have HL := Lib.hid (HLX.out N hrb hNlo (by omega))
                    obtain ⟨F, hF⟩ : ∃ F, floatOfInt .f64 (N : Int) = F := ⟨_, rfl⟩
                    rw [hF] at HL
                    clear hrb hNlo hNhi hup hc2 ho2
                    go_wp2_with (first | (go_at_call 43; refine HB2.out.mono ?_; rintro e w' ⟨rfl, rfl⟩) | (go_at_call 44; refine HBL.out.mono ?_; rintro e w' ⟨rfl, rfl⟩) | (go_at_call 45; refine (HL.out _).mono ?_; rintro e w' ⟨rfl, rfl⟩))
                    go_ret
                    exact ⟨rfl, HBW.out⟩
                  · rw [if_pos (by simp)] at hrb
                    have HL := Lib.hid (HLX.out (N + 1) hrb (by omega) (by omega))
                    obtain ⟨N1, hN1⟩ : ∃ N1, N + 1 = N1 := ⟨_, rfl⟩
                    rw [hN1] at HL hup
                    obtain ⟨F, hF⟩ : ∃ F, floatOfInt .f64 (N1 : Int) = F := ⟨_, rfl⟩
                    rw [hF] at HL
                    clear hrb hNlo hNhi ho2 hN1
                    go_wp2_with (first | (go_at_call 43; refine HB2.out.mono ?_; rintro e w' ⟨rfl, rfl⟩) | (go_at_call 44; refine HBL.out.mono ?_; rintro e w' ⟨rfl, rfl⟩) | (go_at_call 45; refine (HL.out _).mono ?_; rintro e w' ⟨rfl, rfl⟩))
                    go_ret
                    exact ⟨rfl, HBW.out⟩
                · rw [if_pos (by simp)] at hrb
                  have HL := Lib.hid (HLX.out (N + 1) hrb (by omega) (by omega))
                  obtain ⟨N1, hN1⟩ : ∃ N1, N + 1 = N1 := ⟨_, rfl⟩
                  rw [hN1] at HL hup
                  obtain ⟨F, hF⟩ : ∃ F, floatOfInt .f64 (N1 : Int) = F := ⟨_, rfl⟩
                  rw [hF] at HL
                  clear hrb hNlo hNhi ho2 hN1
                  go_wp2_with (first | (go_at_call 43; refine HB2.out.mono ?_; rintro e w' ⟨rfl, rfl⟩) | (go_at_call 44; refine HBL.out.mono ?_; rintro e w' ⟨rfl, rfl⟩) | (go_at_call 45; refine (HL.out _).mono ?_; rintro e w' ⟨rfl, rfl⟩))
                  go_ret
                  exact ⟨rfl, HBW.out⟩
end Go.Proofs.Ytlegkefonpiakaa
