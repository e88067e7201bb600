/- Walks: the reference's look through a list, its exact sum. Conditions: a list that came in. -/
import Derived.Test.YtlegkefonpiakaaK18
namespace Go.Proofs.Ytlegkefonpiakaa
open Go.RowKit
open Ieee (FinW V dR big double wordOf)

theorem refCheck_any (v : Value) (B : Nat) (l : List Nat) (w : World) (h : Came w B v l) (hm : l.length ≤ 17592186044415) :
    Calls Try.prog 35 #[v] w fun e w' => e = .returned (.int .i64 (checkL fitB l)) ∧ w = w' := by
  obtain ⟨A, cap, rfl⟩ := h.form
  by_cases hlen : 256 < l.length
  · have e : checkL fitB l = 2 := by unfold checkL; rw [if_pos hlen]
    have hl2 : (256 : Int) < (l.length : Int) := by omega
    rw [e]
    clear h hlen e
    go_enter Try.func35, Try.ntmps35
    go_wp2
    go_ret
    exact ⟨rfl, rfl⟩
  · have e : checkL fitB l = checkFrom fitB l 0 := by unfold checkL; rw [if_neg hlen]
    have hl2 : (l.length : Int) ≤ 256 := by omega
    rw [e]
    have HC := Lib.hid h
    obtain ⟨len, hll⟩ : ∃ len, l.length = len := ⟨_, rfl⟩
    have HLL := Lib.hid hll
    rw [hll] at hl2 hm HC ⊢
    clear h e hlen hll
    go_enter Try.func35, Try.ntmps35
    go_wp2
    go_loop [3] (fun i => ∃ k : Nat, k ≤ len ∧ i = .int .i64 k ∧ checkFrom fitB l 0 = checkFrom fitB l k) (fun i => len - (intOf i).toNat)
    case atStart => exact ⟨0, Nat.zero_le _, rfl, rfl⟩
    case round =>
      obtain ⟨k, hk, rfl, hrest⟩ := hrel
      have HR := Lib.hid hrest
      clear hrest
      by_cases hlt : k < len
      · have hk2 : k < l.length := by rw [HLL.out]; exact hlt
        have HC3 := HC.out
        rw [← HLL.out] at HC3
        obtain ⟨b, off, rfl, hcell⟩ := HC3.cell hk2
        clear HC3
        have hF := fun u => refFit_any (l.getD k 0) u
        obtain ⟨x, hx⟩ : ∃ x, l.getD k 0 = x := ⟨_, rfl⟩
        rw [hx] at hcell hF
        cases hf : fitB x
        · have HN := Lib.hid (checkFrom_no (F := fitB) (l := l) hk2 (by rw [hx]; exact hf))
          rw [hf] at hF
          have HF := Lib.hid hF
          clear hx hf hF hk2
          go_wp2_with (first | (go_at_call 10; refine (HF.out _).mono ?_; rintro e w' ⟨rfl, rfl⟩))
          go_ret
          exact ⟨ret_i (by rw [HR.out, HN.out]), rfl⟩
        · have HY := Lib.hid (checkFrom_yes (F := fitB) (l := l) hk2 (by rw [hx]; exact hf))
          rw [hf] at hF
          have HF := Lib.hid hF
          clear hx hf hF hk2
          go_wp2_with (first | (go_at_call 10; refine (HF.out _).mono ?_; rintro e w' ⟨rfl, rfl⟩))
          go_round
          case rel => exact ⟨k + 1, by omega, by go_num, by rw [HR.out, HY.out]⟩
          case measure => first | (simp [intOf]; done) | (simp [intOf]; omega)
      · have HE : Hid (checkFrom fitB l k = 0) := Lib.hid (by rw [show k = l.length from by rw [HLL.out]; omega, checkFrom_end])
        go_wp2
        go_ret
        exact ⟨ret_i (by rw [HR.out, HE.out]), rfl⟩

/-- the sum of a list's numbers, in units of 2^-1024 -/
def accV (l : List Nat) (k : Nat) : Int := ((l.take k).map aV).sum
theorem accV_succ {l : List Nat} {k : Nat} (h : k < l.length) : accV l (k + 1) = accV l k + aV (l.getD k 0) := by
  have e : l.getD k 0 = l[k] := by simp [List.getD, List.getElem?_eq_getElem h]
  unfold accV
  rw [e, List.take_succ_eq_append_getElem h, List.map_append, List.sum_append]; simp
theorem accV_V {l : List Nat} (hf : ∀ x ∈ l, fitB x = true) : accV l l.length * 2 ^ 50 = sumV l := by
  unfold accV sumV
  rw [List.take_length]
  induction l with
  | nil => simp
  | cons x l ih =>
    rw [List.map_cons, List.map_cons, List.sum_cons, List.sum_cons, Int.add_mul, ih (fun y hy => hf y (List.mem_cons_of_mem _ hy)), aV_V (hf x List.mem_cons_self)]
theorem aP_dvd {x : Nat} (h : fitB x = true) : (2 : Int) ^ 53 ∣ aV x := by
  have hp : (2 : Nat) ^ 53 ∣ aP (rg x) := by
    rcases fit_range h with h | ⟨h1, h2⟩
    · rw [h]; exact ⟨0, rfl⟩
    · unfold aP
      exact Nat.dvd_trans (Nat.pow_dvd_pow 2 (by omega)) (Nat.dvd_mul_left _ _)
  have hp2 : (2 : Int) ^ 53 ∣ ((aP (rg x) : Nat) : Int) := by
    have := Int.natCast_dvd_natCast.2 hp
    rwa [Int.natCast_pow] at this
  unfold aV
  split
  · exact Int.dvd_neg.2 hp2
  · exact hp2
theorem sum_dvd {M : Int} : ∀ l : List Int, (∀ x ∈ l, M ∣ x) → M ∣ l.sum
  | [], _ => ⟨0, by simp⟩
  | x :: l, h => by rw [List.sum_cons]; exact Int.dvd_add (h x List.mem_cons_self) (sum_dvd l fun y hy => h y (List.mem_cons_of_mem _ hy))
theorem big_or_zero {v : Int} {k : Nat} (h : (2 : Int) ^ k ∣ v) : v = 0 ∨ 2 ^ k ≤ v.natAbs := by
  have h2 : 2 ^ k ∣ v.natAbs := by
    have := Int.natAbs_dvd_natAbs.2 h
    rwa [Int.natAbs_pow] at this
  rcases Nat.eq_zero_or_pos v.natAbs with h3 | h3
  · exact Or.inl (Int.natAbs_eq_zero.1 h3)
  · exact Or.inr (Nat.le_of_dvd h3 h2)
theorem acc_bound {v z : Int} (h : v * 2 ^ 50 = z) (hz : z.natAbs ≤ capB) : v.natAbs < 2 ^ topE := by
  have h1 : z.natAbs = v.natAbs * 2 ^ 50 := by rw [← h, Int.natAbs_mul, Int.natAbs_pow]; rfl
  have h2 : v.natAbs ≤ capB := by
    have := Nat.two_pow_pos 50
    calc v.natAbs = v.natAbs * 1 := (Nat.mul_one _).symm
      _ ≤ v.natAbs * 2 ^ 50 := Nat.mul_le_mul_left _ this
      _ ≤ capB := by rw [← h1]; exact hz
  refine Nat.lt_of_le_of_lt h2 ?_
  unfold capB
  exact Nat.pow_lt_pow_right (by omega) (by decide)
theorem acc_law {l : List Nat} (hw : Words l) (h : checkL fitB l = 0) :
    (accV l l.length).natAbs < 2 ^ topE ∧ (accV l l.length = 0 ∨ 2 ^ 53 ≤ (accV l l.length).natAbs) ∧ wordOf (dR (accV l l.length * 2 ^ 50)) = exactR fitB l := by
  obtain ⟨hl, hf⟩ := checkL_fits h
  have hV := accV_V hf
  refine ⟨acc_bound hV (cap_list hw h), big_or_zero ?_, ?_⟩
  · unfold accV
    refine sum_dvd _ fun y hy => ?_
    obtain ⟨x, hx, rfl⟩ := List.mem_map.1 hy
    exact aP_dvd (hf x (List.mem_of_mem_take hx))
  · rw [hV]
    unfold exactR
    rw [if_pos h, (exact_law hw h).2]

abbrev z24 : Array Value := #[.int .u64 0, .int .u64 0, .int .u64 0, .int .u64 0, .int .u64 0, .int .u64 0, .int .u64 0, .int .u64 0, .int .u64 0, .int .u64 0, .int .u64 0, .int .u64 0, .int .u64 0, .int .u64 0, .int .u64 0, .int .u64 0, .int .u64 0, .int .u64 0, .int .u64 0, .int .u64 0, .int .u64 0, .int .u64 0, .int .u64 0, .int .u64 0]
theorem acc_new (w : World) : AccR (w.alloc (.cells z24 53)) w.heap.size (limb 0) := by
  have hz : z24 = Array.replicate 24 (.int .u64 0) := rfl
  refine ⟨_, heap_alloc_new w _, fun j hj => ?_, rfl⟩
  have hl : limb 0 j = 0 := by have h := limb_nat 0 j; rw [Nat.zero_div] at h; exact h
  rw [hl, hz]
  simp [hj]

set_option maxRecDepth 20000 in
theorem refExact_any (v : Value) (l : List Nat) (w : World) (h : Came w w.heap.size v l) (hw : Words l) (hm : l.length ≤ 17592186044415) :
    Calls Try.prog 22 #[v] w fun e w' => e = .returned (.tuple #[.float .f64 (exactR fitB l), .int .i64 (checkL fitB l)]) ∧ Below w.heap.size w w' := by
  obtain ⟨A, cap, rfl⟩ := h.form
  have hck := refCheck_any _ _ l w h hm
  by_cases hok : checkL fitB l = 0
  · obtain ⟨hl, hfit⟩ := checkL_fits hok
    obtain ⟨hb, h0, hr⟩ := acc_law hw hok
    rw [hok] at hck ⊢
    rw [← hr]
    obtain ⟨len, hll⟩ : ∃ len, l.length = len := ⟨_, rfl⟩
    have HLL := Lib.hid hll
    have HC := Lib.hid h
    have HRD := Lib.hid (fun (u : World) (ha : AccR u w.heap.size (limb (accV l len))) => round_any w.heap.size (accV l len) u ha (by rw [← hll]; exact hb) (by rw [← hll]; exact h0))
    have HF := Lib.hid hfit
    have HW := Lib.hid hw
    have HCK := Lib.hid hck
    rw [hll] at HCK HC hl ⊢
    obtain ⟨D, hD⟩ : ∃ D, wordOf (dR (accV l len * 2 ^ 50)) = D := ⟨_, rfl⟩
    rw [hD] at HRD ⊢
    have HNEW := Lib.hid (acc_new w)
    have HB0 : Hid (Below w.heap.size w (w.alloc (.cells z24 53))) := Lib.hid ((Below.refl w.heap.size w).alloc (Nat.le_refl _) _)
    have HS0 : Hid (w.heap.size ≤ (w.alloc (.cells z24 53)).heap.size) := Lib.hid (by simp)
    clear hb h0 hr hck hll h hfit hw hm hD hok
    go_enter Try.func22, Try.ntmps22
    go_wp2_with (first | (go_at_call 35; refine HCK.out.mono ?_; rintro e w' ⟨rfl, rfl⟩))
    generalize w.alloc (.cells z24 53) = w1 at HNEW HB0 HS0 ⊢
    clear HCK
    go_loopw [6] (fun vi wr => ∃ k : Nat, k ≤ len ∧ vi = .int .i64 k ∧ AccR wr w.heap.size (limb (accV l k)) ∧ Below w.heap.size w wr ∧ w.heap.size ≤ wr.heap.size) (fun vi _ => len - (intOf vi).toNat)
    case atStart => exact ⟨0, Nat.zero_le _, rfl, HNEW.out, HB0.out, HS0.out⟩
    case round =>
      obtain ⟨k, hk, rfl, hacc, hbb, hss⟩ := hrel
      by_cases hlt : k < len
      · have hk2 : k < l.length := by rw [HLL.out]; exact hlt
        have HC3 := HC.out
        rw [← HLL.out] at HC3
        obtain ⟨b, off, rfl, hcell⟩ := (HC3.below hbb).cell hk2
        clear HC3
        have hmem : l.getD k 0 ∈ l := getD_mem hk2
        have HADD := Lib.hid (addA_any w.heap.size (l.getD k 0) (accV l k) wr hacc (HW.out _ hmem) (HF.out _ hmem))
        have HB1 := Lib.hid hbb
        have HS1 := Lib.hid hss
        rw [← accV_succ hk2] at HADD
        obtain ⟨x, hx⟩ : ∃ x, l.getD k 0 = x := ⟨_, rfl⟩
        rw [hx] at hcell HADD
        clear hmem hx hk2 hacc hbb hss
        go_wp2_with (first | (go_at_call 36; refine HADD.out.mono ?_; rintro e w' ⟨rfl, hacc, htt⟩))
        have HX := Lib.hid hacc
        have HT := Lib.hid htt
        clear hacc htt
        go_roundw
        case rel => exact ⟨k + 1, by omega, by go_num, HX.out, HT.out.below HB1.out (Nat.le_refl _) HS1.out, Nat.le_trans HS1.out HT.out.size⟩
        case measure => first | (simp [intOf]; done) | (simp [intOf]; omega)
      · have hkl : k = len := by omega
        subst hkl
        have HR2 := Lib.hid (HRD.out _ hacc)
        have HB1 := Lib.hid hbb
        have HS1 := Lib.hid hss
        clear hacc hbb hss
        go_wp2_with (first | (go_at_call 32; refine HR2.out.mono ?_; rintro e w' ⟨rfl, hb2⟩))
        go_ret2
        exact ⟨rfl, HB1.out.trans (hb2.mono HS1.out)⟩
  · have he : exactR fitB l = 0 := if_neg hok
    rw [he]
    have HCK := Lib.hid hck
    obtain ⟨E, hE⟩ : ∃ E, checkL fitB l = E := ⟨_, rfl⟩
    rw [hE] at HCK hok ⊢
    clear h hw hck he hE
    go_enter Try.func22, Try.ntmps22
    go_wp2_with (first | (go_at_call 35; refine HCK.out.mono ?_; rintro e w' ⟨rfl, rfl⟩))
    go_ret2
    exact ⟨rfl, Below.refl _ _⟩
end Go.Proofs.Ytlegkefonpiakaa
