/- Walks: the accumulator's memory; put. Conditions: the accumulator lies in a block of its own. -/
import Derived.Test.YtlegkefonpiakaaK1
import Derived.Test.YtlegkefonpiakaaV4
import Derived.RegionTactic
import Derived.ChangeAlike
import Derived.StillTailTactics
import Derived.Deep.RegionHeld3
import Derived.OwnWalk
import Derived.IntWalk
import Derived.Laws.Externs
import Derived.Shelf.Spec.BitsCarry
namespace Go.Proofs.Ytlegkefonpiakaa
open Go.RowKit

theorem below_drw {B : Nat} {a w : World} (h : Below B a w) (n : Nat) : Below B a (w.drewN n) := ⟨h.os, h.tape, h.output, h.size, h.block⟩
/-- 24 limbs in a block -/
def AccR (w : World) (g : Nat) (F : Nat → Nat) : Prop := ∃ cur, w.heap[g]? = some (.cells cur 53 (0, 0)) ∧ (∀ j, j < 24 → cur[j]? = some (.int .u64 (F j : Int))) ∧ cur.size = 24
theorem AccR.lt {w : World} {g : Nat} {F : Nat → Nat} (h : AccR w g F) : g < w.heap.size := by
  obtain ⟨cur, h1, _, _⟩ := h; exact (Array.getElem?_eq_some_iff.1 h1).1
theorem AccR.cell {w : World} {g : Nat} {F : Nat → Nat} (h : AccR w g F) {j : Nat} (hj : j < 24) : w.cell? ⟨g, j, none⟩ = some (.int .u64 (F j : Int)) := by
  obtain ⟨cur, h1, h2, h3⟩ := h
  rw [cell_of_row w g j cur 53 (0, 0) h1]; exact h2 j hj
theorem AccR.free {w : World} {g : Nat} {F : Nat → Nat} (h : AccR w g F) (j : Nat) : w.frozen? ⟨g, j, none⟩ = false := by
  obtain ⟨cur, h1, _, _⟩ := h
  simp [World.frozen?, h1]
theorem AccR.drewN {w : World} {g : Nat} {F : Nat → Nat} (h : AccR w g F) (m : Nat) : AccR (w.drewN m) g F := h
theorem AccR.congr {w : World} {g : Nat} {F G : Nat → Nat} (h : AccR w g F) (he : ∀ j, j < 24 → G j = F j) : AccR w g G := by
  obtain ⟨cur, h1, h2, h3⟩ := h
  exact ⟨cur, h1, fun j hj => by rw [he j hj]; exact h2 j hj, h3⟩
def updN (F : Nat → Nat) (k v : Nat) : Nat → Nat := fun j => if j = k then v else F j
theorem AccR.set {w : World} {g : Nat} {F : Nat → Nat} (h : AccR w g F) (j v : Nat) : AccR (w.setCell ⟨g, j, none⟩ (.int .u64 (v : Int))) g (updN F j v) := by
  obtain ⟨cur, h1, h2, h3⟩ := h
  refine ⟨cur.setIfInBounds j (.int .u64 (v : Int)), ?_, ?_, by rw [Array.size_setIfInBounds]; exact h3⟩
  · simp only [World.setCell, Array.getElem?_modify, if_true, h1]; rfl
  · intro i hi
    unfold updN
    by_cases h : i = j
    · subst h
      rw [if_pos rfl, Array.getElem?_setIfInBounds_self_of_lt]
      have := h2 i hi
      exact (Array.getElem?_eq_some_iff.1 this).1
    · rw [if_neg h, Array.getElem?_setIfInBounds_ne (fun e => h e.symm)]; exact h2 i hi
theorem AccR.below {w w' : World} {g : Nat} {F : Nat → Nat} (h : AccR w g F) (hb : Below w.heap.size w w') : AccR w' g F := by
  have hl := h.lt
  obtain ⟨cur, h1, h2, h3⟩ := h
  exact ⟨cur, by rw [hb.block g hl]; exact h1, h2, h3⟩
/-- only block g and new blocks have turned -/
def Touch (g : Nat) (w w' : World) : Prop := w.grownBy w' (some g)
theorem Touch.refl (g : Nat) (w : World) : Touch g w w := ⟨rfl, rfl, rfl, Nat.le_refl _, fun _ _ _ => rfl⟩
theorem Touch.trans {g : Nat} {a b c : World} (h : Touch g a b) (k : Touch g b c) : Touch g a c :=
  ⟨k.os.trans h.os, k.tape.trans h.tape, k.output.trans h.output, Nat.le_trans h.size k.size, fun i hi hne => (k.block i (Nat.lt_of_lt_of_le hi h.size) hne).trans (h.block i hi hne)⟩
theorem Touch.drewN {g : Nat} {a b : World} (h : Touch g a b) (n : Nat) : Touch g a (b.drewN n) := ⟨h.os, h.tape, h.output, h.size, h.block⟩
theorem Touch.set {g : Nat} {a b : World} (h : Touch g a b) (j : Nat) (v : Value) : Touch g a (b.setCell ⟨g, j, none⟩ v) :=
  h.trans ⟨rfl, rfl, rfl, by simp [World.setCell], fun k hk hne => by
    rw [Below.heap_setCell]; intro e; apply hne; simp only at e; rw [e]⟩
theorem Touch.below {g B : Nat} {a b c : World} (h : Touch g b c) (hb : Below B a b) (hg : B ≤ g) (hB : B ≤ b.heap.size) : Below B a c := hb.grown h hB (fun k hk => by cases hk; exact hg)
theorem Touch.ofBelow {g : Nat} {a b : World} (h : Below a.heap.size a b) : Touch g a b := ⟨h.os, h.tape, h.output, h.size, fun k hk _ => h.block k hk⟩

theorem call41 (x y b : Nat) (hb : b ≤ 1) (w : World) : (callFunc 41 #[.int .u64 x, .int .u64 y, .int .u64 b]).run Try.prog w =
    .ok (.value (.tuple #[.int .u64 (((x + 18446744073709551616 - y - b) % 18446744073709551616 : Nat) : Int), .int .u64 ((if x < y + b then 1 else 0 : Nat) : Int)])) w := by
  rw [run_callFunc_extern Try.func41 (by kernel_rfl) (by kernel_rfl) (by kernel_rfl) (e := sub64Entry) (by kernel_rfl), run_sub64 x y b hb]
  rfl
theorem call54 (x y c : Nat) (hc : c ≤ 1) (w : World) : (callFunc 54 #[.int .u64 x, .int .u64 y, .int .u64 c]).run Try.prog w =
    .ok (.value (.tuple #[.int .u64 (((x + y + c) % 18446744073709551616 : Nat) : Int), .int .u64 (((x + y + c) / 18446744073709551616 : Nat) : Int)])) w := by
  rw [run_callFunc_extern Try.func54 (by kernel_rfl) (by kernel_rfl) (by kernel_rfl) (e := add64Entry) (by kernel_rfl), run_add64 x y c (by omega) (by omega) (by omega) (by omega)]
  simp only [Result.andThen]
  congr 5 <;> omega

set_option maxHeartbeats 2000000 in
theorem put_any (g m W k : Nat) (v : Int) (neg : Bool) (w : World) (ha : AccR w g (limb v)) (hm : m < 18446744073709551616) (hW : W < 23) (hk : k < 64) :
    Calls Try.prog 47 #[.pointer (some ⟨g, 0, none⟩), .int .u64 (m : Int), .int .i64 ((64 * W + k : Nat) : Int), .bool neg] w fun e w' =>
      e = .returned (.tuple #[]) ∧ AccR w' g (limb (if neg then v - ((m * 2 ^ (64 * W + k) : Nat) : Int) else v + ((m * 2 ^ (64 * W + k) : Nat) : Int))) ∧ Touch g w w' := by
  have HA := Lib.hid ha
  clear ha
  have hq1 : (((64 * W + k : Nat) : Int)).tdiv 64 = (W : Int) := by rw [Int.tdiv_eq_ediv_of_nonneg (by omega)]; omega
  have hq2 : (((64 * W + k : Nat) : Int)) / 64 = (W : Int) := by omega
  have hr1 : (((64 * W + k : Nat) : Int)).tmod 64 = (k : Int) := by rw [Int.tmod_eq_emod_of_nonneg (by omega)]; omega
  have hr2 : (((64 * W + k : Nat) : Int)) % 64 = (k : Int) := by omega
  obtain ⟨X, hX⟩ : ∃ X : Int, ((m * 2 ^ (64 * W + k) : Nat) : Int) = X := ⟨_, rfl⟩
  have HL : Hid (∀ i, limb X i = if i = W then m * 2 ^ k % 18446744073709551616 else if i = W + 1 then m * 2 ^ k / 18446744073709551616 else 0) := Lib.hid (fun i => by rw [← hX]; exact limb_part hm hk i)
  rw [hX]
  clear hX
  obtain ⟨at_, hat⟩ : ∃ a : Nat, 64 * W + k = a := ⟨_, rfl⟩
  rw [hat] at hq1 hq2 hr1 hr2 ⊢
  have hat2 : at_ < 1600 := by omega
  clear hat
  have HLO : Hid (limb X W = m * 2 ^ k % 18446744073709551616) := Lib.hid (by rw [HL.out, if_pos rfl])
  have HHI : Hid (limb X (W + 1) = m * 2 ^ k / 18446744073709551616) := Lib.hid (by rw [HL.out, if_neg (by omega), if_pos rfl])
  have HNO : Hid (∀ i, i ≠ W → i ≠ W + 1 → limb X i = 0) := Lib.hid (fun i h1 h2 => by rw [HL.out, if_neg h1, if_neg h2])
  have hlo : IntKind.u64.wrap ((m : Int) * 2 ^ k) = ((limb X W : Nat) : Int) := by
    rw [HLO.out, show ((m : Int) * 2 ^ k) = ((m * 2 ^ k : Nat) : Int) from by rw [Int.natCast_mul, Int.natCast_pow]; rfl]
    unfold IntKind.wrap
    simp [IntKind.signed, IntKind.bits]
  have HC0 : Hid (0 < k → (m : Int) / 2 ^ (64 - k) = ((limb X (W + 1) : Nat) : Int)) := Lib.hid (fun h0 => by
    rw [HHI.out, show (2 : Int) ^ (64 - k) = ((2 ^ (64 - k) : Nat) : Int) from (Int.natCast_pow 2 _).symm, ← Int.natCast_ediv]
    congr 1
    have e : 18446744073709551616 = 2 ^ (64 - k) * 2 ^ k := by rw [← Nat.pow_add, show 64 - k + k = 64 from by omega]
    rw [e, Nat.mul_div_mul_right _ _ (Nat.two_pow_pos k)])
  have HC1 : Hid (k = 0 → limb X (W + 1) = 0) := Lib.hid (fun h0 => by
    subst h0
    rw [HHI.out, Nat.pow_zero, Nat.mul_one]
    exact Nat.div_eq_of_lt hm)
  obtain ⟨lo, hlo2⟩ : ∃ a, limb X W = a := ⟨_, rfl⟩
  obtain ⟨hi, hhi2⟩ : ∃ a, limb X (W + 1) = a := ⟨_, rfl⟩
  rw [hlo2] at hlo
  rw [hhi2] at HC0 HC1
  have HX0 := Lib.hid hlo2
  have HX1 := Lib.hid hhi2
  clear hlo2 hhi2 HLO HHI HL
  have HP0 : Hid ((w.alloc (.cells #[.int .u64 (lo : Int), .int .u64 (hi : Int)] 74)).heap[w.heap.size]? = some (.cells #[.int .u64 (lo : Int), .int .u64 (hi : Int)] 74 (0, 0))) := Lib.hid (heap_alloc_new w _)
  have HB0 := Lib.hid ((Below.refl w.heap.size w).alloc (Nat.le_refl _) (.cells #[.int .u64 (lo : Int), .int .u64 (hi : Int)] 74))
  have HAA := Lib.hid (HA.out.below HB0.out)
  have HGP : Hid (g < w.heap.size) := Lib.hid HA.out.lt
  have hgp : g ≠ w.heap.size := by have := HGP.out; omega
  have HP1 : Hid (hi = 0 → (w.alloc (.cells #[.int .u64 (lo : Int), .int .u64 0] 74)).heap[w.heap.size]? = some (.cells #[.int .u64 (lo : Int), .int .u64 0] 74 (0, 0))) := Lib.hid (fun h => heap_alloc_new w _)
  have HB1 := Lib.hid ((Below.refl w.heap.size w).alloc (Nat.le_refl _) (.cells #[.int .u64 (lo : Int), .int .u64 0] 74))
  have HAB := Lib.hid (HA.out.below HB1.out)
  cases neg
  · simp only [if_false, Bool.false_eq_true]
    go_enter Try.func47, Try.ntmps47
    go_wp2
    · rename_i h0
      rw [HC0.out h0]
      clear h0
      go_loopw [11, 12] (fun vc vi wr => ∃ i : Nat, i ≤ 24 ∧ vi = .int .i64 i ∧ vc = .int .u64 ((carryAt v X i : Nat) : Int) ∧ AccR wr g (fun j => if j < i then limb (v + X) j else limb v j) ∧ wr.heap[w.heap.size]? = some (.cells #[.int .u64 (lo : Int), .int .u64 (hi : Int)] 74 (0, 0)) ∧ Touch g w wr) (fun _ vi _ => 24 - (intOf vi).toNat)
      case atStart => exact ⟨0, by omega, rfl, by rw [carry_zero]; rfl, HAA.out.congr (fun j _ => if_neg (by omega)), HP0.out, Touch.ofBelow HB0.out⟩
      case round =>
        obtain ⟨i, hi24, rfl, rfl, hacc, hpp, htt⟩ := hrel
        have HA2 := Lib.hid hacc
        have HP2 := Lib.hid hpp
        have HT2 := Lib.hid htt
        clear hacc hpp htt
        by_cases hin : i < 24
        · have ca := HA2.out.cell hin
          have fa := HA2.out.free i
          have hii : (i : Int) < 24 := by omega
          have cp0 := cell_of_row wr w.heap.size 0 _ 74 (0, 0) HP2.out
          have cp1 := cell_of_row wr w.heap.size 1 _ 74 (0, 0) HP2.out
          have cp0 : wr.cell? ⟨w.heap.size, 0, none⟩ = some (.int .u64 (lo : Int)) := cp0
          have cp1 : wr.cell? ⟨w.heap.size, 1, none⟩ = some (.int .u64 (hi : Int)) := cp1
          rw [if_neg (by omega)] at ca
          by_cases h1 : i < W
          · have h1i : (i : Int) < (W : Int) := by omega
            have hxi : limb X i = 0 := HNO.out i (by omega) (by omega)
            have hcl : carryAt v X i ≤ 1 := carry_le v X i
            have hcall := call54 (limb v i) (limb X i) (carryAt v X i) hcl
            rw [← limb_add v X i, ← carry_next v X i] at hcall
            rw [hxi] at hcall
            try rw [show ((0 : Nat) : Int) = 0 from rfl] at hcall
            have HNX : Hid (∀ j, j < 24 → (if j < i + 1 then limb (v + X) j else limb v j) = updN (fun j => if j < i then limb (v + X) j else limb v j) i (limb (v + X) i) j) := Lib.hid (fun j hj => by
              unfold updN
              by_cases h1 : j = i
              · subst h1; rw [if_pos rfl, if_pos (by omega)]
              · rw [if_neg h1]
                by_cases h2 : j < i
                · rw [if_pos (by omega)]; exact (if_pos h2).symm
                · rw [if_neg (by omega)]; exact (if_neg h2).symm)
            obtain ⟨a, ha⟩ : ∃ a, limb v i = a := ⟨_, rfl⟩
            rw [ha] at ca hcall
            obtain ⟨c, hc⟩ : ∃ c, carryAt v X i = c := ⟨_, rfl⟩
            rw [hc] at hcall ⊢
            obtain ⟨s, hs⟩ : ∃ s, limb (v + X) i = s := ⟨_, rfl⟩
            rw [hs] at hcall HNX
            obtain ⟨c2, hc2⟩ : ∃ c, carryAt v X (i + 1) = c := ⟨_, rfl⟩
            rw [hc2] at hcall
            have HC2 := Lib.hid hc2
            try clear hx
            clear ha hc hs hc2 hcl hxi
            go_wp2
            go_region
            go_wp2
            go_roundw
            case rel => exact ⟨i + 1, by omega, by go_num, by rw [HC2.out], ((HA2.out.drewN 1).set i s).congr HNX.out, (Below.heap_setCell wr ⟨g, i, none⟩ (.int .u64 (s : Int)) w.heap.size (fun e => hgp e.symm)).trans HP2.out, (HT2.out.drewN 1).set _ _⟩
            case measure => first | (simp [intOf]; done) | (simp [intOf]; omega)
          · by_cases h2 : i = W
            · have hx := HX0.out
              rw [← h2] at hx
              have hsub : (i : Int) - (W : Int) = 0 := by omega
              have hge : (W : Int) ≤ (i : Int) := by omega
              have hlt : (i : Int) < (W : Int) + 2 := by omega
              clear h1 h2
              have hxi : limb X i = lo := hx
              have hcl : carryAt v X i ≤ 1 := carry_le v X i
              have hcall := call54 (limb v i) (limb X i) (carryAt v X i) hcl
              rw [← limb_add v X i, ← carry_next v X i] at hcall
              rw [hxi] at hcall
              try rw [show ((0 : Nat) : Int) = 0 from rfl] at hcall
              have HNX : Hid (∀ j, j < 24 → (if j < i + 1 then limb (v + X) j else limb v j) = updN (fun j => if j < i then limb (v + X) j else limb v j) i (limb (v + X) i) j) := Lib.hid (fun j hj => by
                unfold updN
                by_cases h1 : j = i
                · subst h1; rw [if_pos rfl, if_pos (by omega)]
                · rw [if_neg h1]
                  by_cases h2 : j < i
                  · rw [if_pos (by omega)]; exact (if_pos h2).symm
                  · rw [if_neg (by omega)]; exact (if_neg h2).symm)
              obtain ⟨a, ha⟩ : ∃ a, limb v i = a := ⟨_, rfl⟩
              rw [ha] at ca hcall
              obtain ⟨c, hc⟩ : ∃ c, carryAt v X i = c := ⟨_, rfl⟩
              rw [hc] at hcall ⊢
              obtain ⟨s, hs⟩ : ∃ s, limb (v + X) i = s := ⟨_, rfl⟩
              rw [hs] at hcall HNX
              obtain ⟨c2, hc2⟩ : ∃ c, carryAt v X (i + 1) = c := ⟨_, rfl⟩
              rw [hc2] at hcall
              have HC2 := Lib.hid hc2
              try clear hx
              clear ha hc hs hc2 hcl hxi
              go_wp2
              go_region
              go_wp2
              go_roundw
              case rel => exact ⟨i + 1, by omega, by go_num, by rw [HC2.out], ((HA2.out.drewN 1).set i s).congr HNX.out, (Below.heap_setCell wr ⟨g, i, none⟩ (.int .u64 (s : Int)) w.heap.size (fun e => hgp e.symm)).trans HP2.out, (HT2.out.drewN 1).set _ _⟩
              case measure => first | (simp [intOf]; done) | (simp [intOf]; omega)
            · by_cases h3 : i = W + 1
              · have hx := HX1.out
                rw [← h3] at hx
                have hsub : (i : Int) - (W : Int) = 1 := by omega
                have hge : (W : Int) ≤ (i : Int) := by omega
                have hlt : (i : Int) < (W : Int) + 2 := by omega
                clear h1 h2 h3
                have hxi : limb X i = hi := hx
                have hcl : carryAt v X i ≤ 1 := carry_le v X i
                have hcall := call54 (limb v i) (limb X i) (carryAt v X i) hcl
                rw [← limb_add v X i, ← carry_next v X i] at hcall
                rw [hxi] at hcall
                try rw [show ((0 : Nat) : Int) = 0 from rfl] at hcall
                have HNX : Hid (∀ j, j < 24 → (if j < i + 1 then limb (v + X) j else limb v j) = updN (fun j => if j < i then limb (v + X) j else limb v j) i (limb (v + X) i) j) := Lib.hid (fun j hj => by
                  unfold updN
                  by_cases h1 : j = i
                  · subst h1; rw [if_pos rfl, if_pos (by omega)]
                  · rw [if_neg h1]
                    by_cases h2 : j < i
                    · rw [if_pos (by omega)]; exact (if_pos h2).symm
                    · rw [if_neg (by omega)]; exact (if_neg h2).symm)
                obtain ⟨a, ha⟩ : ∃ a, limb v i = a := ⟨_, rfl⟩
                rw [ha] at ca hcall
                obtain ⟨c, hc⟩ : ∃ c, carryAt v X i = c := ⟨_, rfl⟩
                rw [hc] at hcall ⊢
                obtain ⟨s, hs⟩ : ∃ s, limb (v + X) i = s := ⟨_, rfl⟩
                rw [hs] at hcall HNX
                obtain ⟨c2, hc2⟩ : ∃ c, carryAt v X (i + 1) = c := ⟨_, rfl⟩
                rw [hc2] at hcall
                have HC2 := Lib.hid hc2
                try clear hx
                clear ha hc hs hc2 hcl hxi
                go_wp2
                go_region
                go_wp2
                go_roundw
                case rel => exact ⟨i + 1, by omega, by go_num, by rw [HC2.out], ((HA2.out.drewN 1).set i s).congr HNX.out, (Below.heap_setCell wr ⟨g, i, none⟩ (.int .u64 (s : Int)) w.heap.size (fun e => hgp e.symm)).trans HP2.out, (HT2.out.drewN 1).set _ _⟩
                case measure => first | (simp [intOf]; done) | (simp [intOf]; omega)
              · have h4 : (W : Int) + 2 ≤ (i : Int) := by omega
                have hge : (W : Int) ≤ (i : Int) := by omega
                have hxi : limb X i = 0 := HNO.out i (by omega) (by omega)
                have hcl : carryAt v X i ≤ 1 := carry_le v X i
                have hcall := call54 (limb v i) (limb X i) (carryAt v X i) hcl
                rw [← limb_add v X i, ← carry_next v X i] at hcall
                rw [hxi] at hcall
                try rw [show ((0 : Nat) : Int) = 0 from rfl] at hcall
                have HNX : Hid (∀ j, j < 24 → (if j < i + 1 then limb (v + X) j else limb v j) = updN (fun j => if j < i then limb (v + X) j else limb v j) i (limb (v + X) i) j) := Lib.hid (fun j hj => by
                  unfold updN
                  by_cases h1 : j = i
                  · subst h1; rw [if_pos rfl, if_pos (by omega)]
                  · rw [if_neg h1]
                    by_cases h2 : j < i
                    · rw [if_pos (by omega)]; exact (if_pos h2).symm
                    · rw [if_neg (by omega)]; exact (if_neg h2).symm)
                obtain ⟨a, ha⟩ : ∃ a, limb v i = a := ⟨_, rfl⟩
                rw [ha] at ca hcall
                obtain ⟨c, hc⟩ : ∃ c, carryAt v X i = c := ⟨_, rfl⟩
                rw [hc] at hcall ⊢
                obtain ⟨s, hs⟩ : ∃ s, limb (v + X) i = s := ⟨_, rfl⟩
                rw [hs] at hcall HNX
                obtain ⟨c2, hc2⟩ : ∃ c, carryAt v X (i + 1) = c := ⟨_, rfl⟩
                rw [hc2] at hcall
                have HC2 := Lib.hid hc2
                try clear hx
                clear ha hc hs hc2 hcl hxi
                go_wp2
                go_region
                go_wp2
                go_roundw
                case rel => exact ⟨i + 1, by omega, by go_num, by rw [HC2.out], ((HA2.out.drewN 1).set i s).congr HNX.out, (Below.heap_setCell wr ⟨g, i, none⟩ (.int .u64 (s : Int)) w.heap.size (fun e => hgp e.symm)).trans HP2.out, (HT2.out.drewN 1).set _ _⟩
                case measure => first | (simp [intOf]; done) | (simp [intOf]; omega)
        · have hin2 : i = 24 := by omega
          subst hin2
          go_wp2
          go_end0
          exact ⟨rfl, HA2.out.congr (fun j hj => (if_pos hj).symm), HT2.out⟩
    · rename_i h0
      have hh0 := HC1.out (by omega)
      have HP2 := Lib.hid (HP1.out hh0)
      subst hh0
      clear h0
      go_loopw [11, 12] (fun vc vi wr => ∃ i : Nat, i ≤ 24 ∧ vi = .int .i64 i ∧ vc = .int .u64 ((carryAt v X i : Nat) : Int) ∧ AccR wr g (fun j => if j < i then limb (v + X) j else limb v j) ∧ wr.heap[w.heap.size]? = some (.cells #[.int .u64 (lo : Int), .int .u64 0] 74 (0, 0)) ∧ Touch g w wr) (fun _ vi _ => 24 - (intOf vi).toNat)
      case atStart => exact ⟨0, by omega, rfl, by rw [carry_zero]; rfl, HAB.out.congr (fun j _ => if_neg (by omega)), HP2.out, Touch.ofBelow HB1.out⟩
      case round =>
        obtain ⟨i, hi24, rfl, rfl, hacc, hpp, htt⟩ := hrel
        have HA2 := Lib.hid hacc
        have HP2 := Lib.hid hpp
        have HT2 := Lib.hid htt
        clear hacc hpp htt
        by_cases hin : i < 24
        · have ca := HA2.out.cell hin
          have fa := HA2.out.free i
          have hii : (i : Int) < 24 := by omega
          have cp0 := cell_of_row wr w.heap.size 0 _ 74 (0, 0) HP2.out
          have cp1 := cell_of_row wr w.heap.size 1 _ 74 (0, 0) HP2.out
          have cp0 : wr.cell? ⟨w.heap.size, 0, none⟩ = some (.int .u64 (lo : Int)) := cp0
          have cp1 : wr.cell? ⟨w.heap.size, 1, none⟩ = some (.int .u64 0) := cp1
          rw [if_neg (by omega)] at ca
          by_cases h1 : i < W
          · have h1i : (i : Int) < (W : Int) := by omega
            have hxi : limb X i = 0 := HNO.out i (by omega) (by omega)
            have hcl : carryAt v X i ≤ 1 := carry_le v X i
            have hcall := call54 (limb v i) (limb X i) (carryAt v X i) hcl
            rw [← limb_add v X i, ← carry_next v X i] at hcall
            rw [hxi] at hcall
            try rw [show ((0 : Nat) : Int) = 0 from rfl] at hcall
            have HNX : Hid (∀ j, j < 24 → (if j < i + 1 then limb (v + X) j else limb v j) = updN (fun j => if j < i then limb (v + X) j else limb v j) i (limb (v + X) i) j) := Lib.hid (fun j hj => by
              unfold updN
              by_cases h1 : j = i
              · subst h1; rw [if_pos rfl, if_pos (by omega)]
              · rw [if_neg h1]
                by_cases h2 : j < i
                · rw [if_pos (by omega)]; exact (if_pos h2).symm
                · rw [if_neg (by omega)]; exact (if_neg h2).symm)
            obtain ⟨a, ha⟩ : ∃ a, limb v i = a := ⟨_, rfl⟩
            rw [ha] at ca hcall
            obtain ⟨c, hc⟩ : ∃ c, carryAt v X i = c := ⟨_, rfl⟩
            rw [hc] at hcall ⊢
            obtain ⟨s, hs⟩ : ∃ s, limb (v + X) i = s := ⟨_, rfl⟩
            rw [hs] at hcall HNX
            obtain ⟨c2, hc2⟩ : ∃ c, carryAt v X (i + 1) = c := ⟨_, rfl⟩
            rw [hc2] at hcall
            have HC2 := Lib.hid hc2
            try clear hx
            clear ha hc hs hc2 hcl hxi
            go_wp2
            go_region
            go_wp2
            go_roundw
            case rel => exact ⟨i + 1, by omega, by go_num, by rw [HC2.out], ((HA2.out.drewN 1).set i s).congr HNX.out, (Below.heap_setCell wr ⟨g, i, none⟩ (.int .u64 (s : Int)) w.heap.size (fun e => hgp e.symm)).trans HP2.out, (HT2.out.drewN 1).set _ _⟩
            case measure => first | (simp [intOf]; done) | (simp [intOf]; omega)
          · by_cases h2 : i = W
            · have hx := HX0.out
              rw [← h2] at hx
              have hsub : (i : Int) - (W : Int) = 0 := by omega
              have hge : (W : Int) ≤ (i : Int) := by omega
              have hlt : (i : Int) < (W : Int) + 2 := by omega
              clear h1 h2
              have hxi : limb X i = lo := hx
              have hcl : carryAt v X i ≤ 1 := carry_le v X i
              have hcall := call54 (limb v i) (limb X i) (carryAt v X i) hcl
              rw [← limb_add v X i, ← carry_next v X i] at hcall
              rw [hxi] at hcall
              try rw [show ((0 : Nat) : Int) = 0 from rfl] at hcall
              have HNX : Hid (∀ j, j < 24 → (if j < i + 1 then limb (v + X) j else limb v j) = updN (fun j => if j < i then limb (v + X) j else limb v j) i (limb (v + X) i) j) := Lib.hid (fun j hj => by
                unfold updN
                by_cases h1 : j = i
                · subst h1; rw [if_pos rfl, if_pos (by omega)]
                · rw [if_neg h1]
                  by_cases h2 : j < i
                  · rw [if_pos (by omega)]; exact (if_pos h2).symm
                  · rw [if_neg (by omega)]; exact (if_neg h2).symm)
              obtain ⟨a, ha⟩ : ∃ a, limb v i = a := ⟨_, rfl⟩
              rw [ha] at ca hcall
              obtain ⟨c, hc⟩ : ∃ c, carryAt v X i = c := ⟨_, rfl⟩
              rw [hc] at hcall ⊢
              obtain ⟨s, hs⟩ : ∃ s, limb (v + X) i = s := ⟨_, rfl⟩
              rw [hs] at hcall HNX
              obtain ⟨c2, hc2⟩ : ∃ c, carryAt v X (i + 1) = c := ⟨_, rfl⟩
              rw [hc2] at hcall
              have HC2 := Lib.hid hc2
              try clear hx
              clear ha hc hs hc2 hcl hxi
              go_wp2
              go_region
              go_wp2
              go_roundw
              case rel => exact ⟨i + 1, by omega, by go_num, by rw [HC2.out], ((HA2.out.drewN 1).set i s).congr HNX.out, (Below.heap_setCell wr ⟨g, i, none⟩ (.int .u64 (s : Int)) w.heap.size (fun e => hgp e.symm)).trans HP2.out, (HT2.out.drewN 1).set _ _⟩
              case measure => first | (simp [intOf]; done) | (simp [intOf]; omega)
            · by_cases h3 : i = W + 1
              · have hx := HX1.out
                rw [← h3] at hx
                have hsub : (i : Int) - (W : Int) = 1 := by omega
                have hge : (W : Int) ≤ (i : Int) := by omega
                have hlt : (i : Int) < (W : Int) + 2 := by omega
                clear h1 h2 h3
                have hxi : limb X i = 0 := hx
                have hcl : carryAt v X i ≤ 1 := carry_le v X i
                have hcall := call54 (limb v i) (limb X i) (carryAt v X i) hcl
                rw [← limb_add v X i, ← carry_next v X i] at hcall
                rw [hxi] at hcall
                try rw [show ((0 : Nat) : Int) = 0 from rfl] at hcall
                have HNX : Hid (∀ j, j < 24 → (if j < i + 1 then limb (v + X) j else limb v j) = updN (fun j => if j < i then limb (v + X) j else limb v j) i (limb (v + X) i) j) := Lib.hid (fun j hj => by
                  unfold updN
                  by_cases h1 : j = i
                  · subst h1; rw [if_pos rfl, if_pos (by omega)]
                  · rw [if_neg h1]
                    by_cases h2 : j < i
                    · rw [if_pos (by omega)]; exact (if_pos h2).symm
                    · rw [if_neg (by omega)]; exact (if_neg h2).symm)
                obtain ⟨a, ha⟩ : ∃ a, limb v i = a := ⟨_, rfl⟩
                rw [ha] at ca hcall
                obtain ⟨c, hc⟩ : ∃ c, carryAt v X i = c := ⟨_, rfl⟩
                rw [hc] at hcall ⊢
                obtain ⟨s, hs⟩ : ∃ s, limb (v + X) i = s := ⟨_, rfl⟩
                rw [hs] at hcall HNX
                obtain ⟨c2, hc2⟩ : ∃ c, carryAt v X (i + 1) = c := ⟨_, rfl⟩
                rw [hc2] at hcall
                have HC2 := Lib.hid hc2
                try clear hx
                clear ha hc hs hc2 hcl hxi
                go_wp2
                go_region
                go_wp2
                go_roundw
                case rel => exact ⟨i + 1, by omega, by go_num, by rw [HC2.out], ((HA2.out.drewN 1).set i s).congr HNX.out, (Below.heap_setCell wr ⟨g, i, none⟩ (.int .u64 (s : Int)) w.heap.size (fun e => hgp e.symm)).trans HP2.out, (HT2.out.drewN 1).set _ _⟩
                case measure => first | (simp [intOf]; done) | (simp [intOf]; omega)
              · have h4 : (W : Int) + 2 ≤ (i : Int) := by omega
                have hge : (W : Int) ≤ (i : Int) := by omega
                have hxi : limb X i = 0 := HNO.out i (by omega) (by omega)
                have hcl : carryAt v X i ≤ 1 := carry_le v X i
                have hcall := call54 (limb v i) (limb X i) (carryAt v X i) hcl
                rw [← limb_add v X i, ← carry_next v X i] at hcall
                rw [hxi] at hcall
                try rw [show ((0 : Nat) : Int) = 0 from rfl] at hcall
                have HNX : Hid (∀ j, j < 24 → (if j < i + 1 then limb (v + X) j else limb v j) = updN (fun j => if j < i then limb (v + X) j else limb v j) i (limb (v + X) i) j) := Lib.hid (fun j hj => by
                  unfold updN
                  by_cases h1 : j = i
                  · subst h1; rw [if_pos rfl, if_pos (by omega)]
                  · rw [if_neg h1]
                    by_cases h2 : j < i
                    · rw [if_pos (by omega)]; exact (if_pos h2).symm
                    · rw [if_neg (by omega)]; exact (if_neg h2).symm)
                obtain ⟨a, ha⟩ : ∃ a, limb v i = a := ⟨_, rfl⟩
                rw [ha] at ca hcall
                obtain ⟨c, hc⟩ : ∃ c, carryAt v X i = c := ⟨_, rfl⟩
                rw [hc] at hcall ⊢
                obtain ⟨s, hs⟩ : ∃ s, limb (v + X) i = s := ⟨_, rfl⟩
                rw [hs] at hcall HNX
                obtain ⟨c2, hc2⟩ : ∃ c, carryAt v X (i + 1) = c := ⟨_, rfl⟩
                rw [hc2] at hcall
                have HC2 := Lib.hid hc2
                try clear hx
                clear ha hc hs hc2 hcl hxi
                go_wp2
                go_region
                go_wp2
                go_roundw
                case rel => exact ⟨i + 1, by omega, by go_num, by rw [HC2.out], ((HA2.out.drewN 1).set i s).congr HNX.out, (Below.heap_setCell wr ⟨g, i, none⟩ (.int .u64 (s : Int)) w.heap.size (fun e => hgp e.symm)).trans HP2.out, (HT2.out.drewN 1).set _ _⟩
                case measure => first | (simp [intOf]; done) | (simp [intOf]; omega)
        · have hin2 : i = 24 := by omega
          subst hin2
          go_wp2
          go_end0
          exact ⟨rfl, HA2.out.congr (fun j hj => (if_pos hj).symm), HT2.out⟩
  · simp only [if_true]
    go_enter Try.func47, Try.ntmps47
    go_wp2
    · rename_i h0
      rw [HC0.out h0]
      clear h0
      go_loopw [11, 12] (fun vc vi wr => ∃ i : Nat, i ≤ 24 ∧ vi = .int .i64 i ∧ vc = .int .u64 ((borrowAt v X i : Nat) : Int) ∧ AccR wr g (fun j => if j < i then limb (v - X) j else limb v j) ∧ wr.heap[w.heap.size]? = some (.cells #[.int .u64 (lo : Int), .int .u64 (hi : Int)] 74 (0, 0)) ∧ Touch g w wr) (fun _ vi _ => 24 - (intOf vi).toNat)
      case atStart => exact ⟨0, by omega, rfl, by rw [borrow_zero]; rfl, HAA.out.congr (fun j _ => if_neg (by omega)), HP0.out, Touch.ofBelow HB0.out⟩
      case round =>
        obtain ⟨i, hi24, rfl, rfl, hacc, hpp, htt⟩ := hrel
        have HA2 := Lib.hid hacc
        have HP2 := Lib.hid hpp
        have HT2 := Lib.hid htt
        clear hacc hpp htt
        by_cases hin : i < 24
        · have ca := HA2.out.cell hin
          have fa := HA2.out.free i
          have hii : (i : Int) < 24 := by omega
          have cp0 := cell_of_row wr w.heap.size 0 _ 74 (0, 0) HP2.out
          have cp1 := cell_of_row wr w.heap.size 1 _ 74 (0, 0) HP2.out
          have cp0 : wr.cell? ⟨w.heap.size, 0, none⟩ = some (.int .u64 (lo : Int)) := cp0
          have cp1 : wr.cell? ⟨w.heap.size, 1, none⟩ = some (.int .u64 (hi : Int)) := cp1
          rw [if_neg (by omega)] at ca
          by_cases h1 : i < W
          · have h1i : (i : Int) < (W : Int) := by omega
            have hxi : limb X i = 0 := HNO.out i (by omega) (by omega)
            have hcl : borrowAt v X i ≤ 1 := borrow_le v X i
            have hcall := call41 (limb v i) (limb X i) (borrowAt v X i) hcl
            rw [← limb_sub v X i, ← borrow_next v X i] at hcall
            rw [hxi] at hcall
            try rw [show ((0 : Nat) : Int) = 0 from rfl] at hcall
            have HNX : Hid (∀ j, j < 24 → (if j < i + 1 then limb (v - X) j else limb v j) = updN (fun j => if j < i then limb (v - X) j else limb v j) i (limb (v - X) i) j) := Lib.hid (fun j hj => by
              unfold updN
              by_cases h1 : j = i
              · subst h1; rw [if_pos rfl, if_pos (by omega)]
              · rw [if_neg h1]
                by_cases h2 : j < i
                · rw [if_pos (by omega)]; exact (if_pos h2).symm
                · rw [if_neg (by omega)]; exact (if_neg h2).symm)
            obtain ⟨a, ha⟩ : ∃ a, limb v i = a := ⟨_, rfl⟩
            rw [ha] at ca hcall
            obtain ⟨c, hc⟩ : ∃ c, borrowAt v X i = c := ⟨_, rfl⟩
            rw [hc] at hcall ⊢
            obtain ⟨s, hs⟩ : ∃ s, limb (v - X) i = s := ⟨_, rfl⟩
            rw [hs] at hcall HNX
            obtain ⟨c2, hc2⟩ : ∃ c, borrowAt v X (i + 1) = c := ⟨_, rfl⟩
            rw [hc2] at hcall
            have HC2 := Lib.hid hc2
            try clear hx
            clear ha hc hs hc2 hcl hxi
            go_wp2
            go_region
            go_wp2
            go_roundw
            case rel => exact ⟨i + 1, by omega, by go_num, by rw [HC2.out], ((HA2.out.drewN 1).set i s).congr HNX.out, (Below.heap_setCell wr ⟨g, i, none⟩ (.int .u64 (s : Int)) w.heap.size (fun e => hgp e.symm)).trans HP2.out, (HT2.out.drewN 1).set _ _⟩
            case measure => first | (simp [intOf]; done) | (simp [intOf]; omega)
          · by_cases h2 : i = W
            · have hx := HX0.out
              rw [← h2] at hx
              have hsub : (i : Int) - (W : Int) = 0 := by omega
              have hge : (W : Int) ≤ (i : Int) := by omega
              have hlt : (i : Int) < (W : Int) + 2 := by omega
              clear h1 h2
              have hxi : limb X i = lo := hx
              have hcl : borrowAt v X i ≤ 1 := borrow_le v X i
              have hcall := call41 (limb v i) (limb X i) (borrowAt v X i) hcl
              rw [← limb_sub v X i, ← borrow_next v X i] at hcall
              rw [hxi] at hcall
              try rw [show ((0 : Nat) : Int) = 0 from rfl] at hcall
              have HNX : Hid (∀ j, j < 24 → (if j < i + 1 then limb (v - X) j else limb v j) = updN (fun j => if j < i then limb (v - X) j else limb v j) i (limb (v - X) i) j) := Lib.hid (fun j hj => by
                unfold updN
                by_cases h1 : j = i
                · subst h1; rw [if_pos rfl, if_pos (by omega)]
                · rw [if_neg h1]
                  by_cases h2 : j < i
                  · rw [if_pos (by omega)]; exact (if_pos h2).symm
                  · rw [if_neg (by omega)]; exact (if_neg h2).symm)
              obtain ⟨a, ha⟩ : ∃ a, limb v i = a := ⟨_, rfl⟩
              rw [ha] at ca hcall
              obtain ⟨c, hc⟩ : ∃ c, borrowAt v X i = c := ⟨_, rfl⟩
              rw [hc] at hcall ⊢
              obtain ⟨s, hs⟩ : ∃ s, limb (v - X) i = s := ⟨_, rfl⟩
              rw [hs] at hcall HNX
              obtain ⟨c2, hc2⟩ : ∃ c, borrowAt v X (i + 1) = c := ⟨_, rfl⟩
              rw [hc2] at hcall
              have HC2 := Lib.hid hc2
              try clear hx
              clear ha hc hs hc2 hcl hxi
              go_wp2
              go_region
              go_wp2
              go_roundw
              case rel => exact ⟨i + 1, by omega, by go_num, by rw [HC2.out], ((HA2.out.drewN 1).set i s).congr HNX.out, (Below.heap_setCell wr ⟨g, i, none⟩ (.int .u64 (s : Int)) w.heap.size (fun e => hgp e.symm)).trans HP2.out, (HT2.out.drewN 1).set _ _⟩
              case measure => first | (simp [intOf]; done) | (simp [intOf]; omega)
            · by_cases h3 : i = W + 1
              · have hx := HX1.out
                rw [← h3] at hx
                have hsub : (i : Int) - (W : Int) = 1 := by omega
                have hge : (W : Int) ≤ (i : Int) := by omega
                have hlt : (i : Int) < (W : Int) + 2 := by omega
                clear h1 h2 h3
                have hxi : limb X i = hi := hx
                have hcl : borrowAt v X i ≤ 1 := borrow_le v X i
                have hcall := call41 (limb v i) (limb X i) (borrowAt v X i) hcl
                rw [← limb_sub v X i, ← borrow_next v X i] at hcall
                rw [hxi] at hcall
                try rw [show ((0 : Nat) : Int) = 0 from rfl] at hcall
                have HNX : Hid (∀ j, j < 24 → (if j < i + 1 then limb (v - X) j else limb v j) = updN (fun j => if j < i then limb (v - X) j else limb v j) i (limb (v - X) i) j) := Lib.hid (fun j hj => by
                  unfold updN
                  by_cases h1 : j = i
                  · subst h1; rw [if_pos rfl, if_pos (by omega)]
                  · rw [if_neg h1]
                    by_cases h2 : j < i
                    · rw [if_pos (by omega)]; exact (if_pos h2).symm
                    · rw [if_neg (by omega)]; exact (if_neg h2).symm)
                obtain ⟨a, ha⟩ : ∃ a, limb v i = a := ⟨_, rfl⟩
                rw [ha] at ca hcall
                obtain ⟨c, hc⟩ : ∃ c, borrowAt v X i = c := ⟨_, rfl⟩
                rw [hc] at hcall ⊢
                obtain ⟨s, hs⟩ : ∃ s, limb (v - X) i = s := ⟨_, rfl⟩
                rw [hs] at hcall HNX
                obtain ⟨c2, hc2⟩ : ∃ c, borrowAt v X (i + 1) = c := ⟨_, rfl⟩
                rw [hc2] at hcall
                have HC2 := Lib.hid hc2
                try clear hx
                clear ha hc hs hc2 hcl hxi
                go_wp2
                go_region
                go_wp2
                go_roundw
                case rel => exact ⟨i + 1, by omega, by go_num, by rw [HC2.out], ((HA2.out.drewN 1).set i s).congr HNX.out, (Below.heap_setCell wr ⟨g, i, none⟩ (.int .u64 (s : Int)) w.heap.size (fun e => hgp e.symm)).trans HP2.out, (HT2.out.drewN 1).set _ _⟩
                case measure => first | (simp [intOf]; done) | (simp [intOf]; omega)
              · have h4 : (W : Int) + 2 ≤ (i : Int) := by omega
                have hge : (W : Int) ≤ (i : Int) := by omega
                have hxi : limb X i = 0 := HNO.out i (by omega) (by omega)
                have hcl : borrowAt v X i ≤ 1 := borrow_le v X i
                have hcall := call41 (limb v i) (limb X i) (borrowAt v X i) hcl
                rw [← limb_sub v X i, ← borrow_next v X i] at hcall
                rw [hxi] at hcall
                try rw [show ((0 : Nat) : Int) = 0 from rfl] at hcall
                have HNX : Hid (∀ j, j < 24 → (if j < i + 1 then limb (v - X) j else limb v j) = updN (fun j => if j < i then limb (v - X) j else limb v j) i (limb (v - X) i) j) := Lib.hid (fun j hj => by
                  unfold updN
                  by_cases h1 : j = i
                  · subst h1; rw [if_pos rfl, if_pos (by omega)]
                  · rw [if_neg h1]
                    by_cases h2 : j < i
                    · rw [if_pos (by omega)]; exact (if_pos h2).symm
                    · rw [if_neg (by omega)]; exact (if_neg h2).symm)
                obtain ⟨a, ha⟩ : ∃ a, limb v i = a := ⟨_, rfl⟩
                rw [ha] at ca hcall
                obtain ⟨c, hc⟩ : ∃ c, borrowAt v X i = c := ⟨_, rfl⟩
                rw [hc] at hcall ⊢
                obtain ⟨s, hs⟩ : ∃ s, limb (v - X) i = s := ⟨_, rfl⟩
                rw [hs] at hcall HNX
                obtain ⟨c2, hc2⟩ : ∃ c, borrowAt v X (i + 1) = c := ⟨_, rfl⟩
                rw [hc2] at hcall
                have HC2 := Lib.hid hc2
                try clear hx
                clear ha hc hs hc2 hcl hxi
                go_wp2
                go_region
                go_wp2
                go_roundw
                case rel => exact ⟨i + 1, by omega, by go_num, by rw [HC2.out], ((HA2.out.drewN 1).set i s).congr HNX.out, (Below.heap_setCell wr ⟨g, i, none⟩ (.int .u64 (s : Int)) w.heap.size (fun e => hgp e.symm)).trans HP2.out, (HT2.out.drewN 1).set _ _⟩
                case measure => first | (simp [intOf]; done) | (simp [intOf]; omega)
        · have hin2 : i = 24 := by omega
          subst hin2
          go_wp2
          go_end0
          exact ⟨rfl, HA2.out.congr (fun j hj => (if_pos hj).symm), HT2.out⟩
    · rename_i h0
      have hh0 := HC1.out (by omega)
      have HP2 := Lib.hid (HP1.out hh0)
      subst hh0
      clear h0
      go_loopw [11, 12] (fun vc vi wr => ∃ i : Nat, i ≤ 24 ∧ vi = .int .i64 i ∧ vc = .int .u64 ((borrowAt v X i : Nat) : Int) ∧ AccR wr g (fun j => if j < i then limb (v - X) j else limb v j) ∧ wr.heap[w.heap.size]? = some (.cells #[.int .u64 (lo : Int), .int .u64 0] 74 (0, 0)) ∧ Touch g w wr) (fun _ vi _ => 24 - (intOf vi).toNat)
      case atStart => exact ⟨0, by omega, rfl, by rw [borrow_zero]; rfl, HAB.out.congr (fun j _ => if_neg (by omega)), HP2.out, Touch.ofBelow HB1.out⟩
      case round =>
        obtain ⟨i, hi24, rfl, rfl, hacc, hpp, htt⟩ := hrel
        have HA2 := Lib.hid hacc
        have HP2 := Lib.hid hpp
        have HT2 := Lib.hid htt
        clear hacc hpp htt
        by_cases hin : i < 24
        · have ca := HA2.out.cell hin
          have fa := HA2.out.free i
          have hii : (i : Int) < 24 := by omega
          have cp0 := cell_of_row wr w.heap.size 0 _ 74 (0, 0) HP2.out
          have cp1 := cell_of_row wr w.heap.size 1 _ 74 (0, 0) HP2.out
          have cp0 : wr.cell? ⟨w.heap.size, 0, none⟩ = some (.int .u64 (lo : Int)) := cp0
          have cp1 : wr.cell? ⟨w.heap.size, 1, none⟩ = some (.int .u64 0) := cp1
          rw [if_neg (by omega)] at ca
          by_cases h1 : i < W
          · have h1i : (i : Int) < (W : Int) := by omega
            have hxi : limb X i = 0 := HNO.out i (by omega) (by omega)
            have hcl : borrowAt v X i ≤ 1 := borrow_le v X i
            have hcall := call41 (limb v i) (limb X i) (borrowAt v X i) hcl
            rw [← limb_sub v X i, ← borrow_next v X i] at hcall
            rw [hxi] at hcall
            try rw [show ((0 : Nat) : Int) = 0 from rfl] at hcall
            have HNX : Hid (∀ j, j < 24 → (if j < i + 1 then limb (v - X) j else limb v j) = updN (fun j => if j < i then limb (v - X) j else limb v j) i (limb (v - X) i) j) := Lib.hid (fun j hj => by
              unfold updN
              by_cases h1 : j = i
              · subst h1; rw [if_pos rfl, if_pos (by omega)]
              · rw [if_neg h1]
                by_cases h2 : j < i
                · rw [if_pos (by omega)]; exact (if_pos h2).symm
                · rw [if_neg (by omega)]; exact (if_neg h2).symm)
            obtain ⟨a, ha⟩ : ∃ a, limb v i = a := ⟨_, rfl⟩
            rw [ha] at ca hcall
            obtain ⟨c, hc⟩ : ∃ c, borrowAt v X i = c := ⟨_, rfl⟩
            rw [hc] at hcall ⊢
            obtain ⟨s, hs⟩ : ∃ s, limb (v - X) i = s := ⟨_, rfl⟩
            rw [hs] at hcall HNX
            obtain ⟨c2, hc2⟩ : ∃ c, borrowAt v X (i + 1) = c := ⟨_, rfl⟩
            rw [hc2] at hcall
            have HC2 := Lib.hid hc2
            try clear hx
            clear ha hc hs hc2 hcl hxi
            go_wp2
            go_region
            go_wp2
            go_roundw
            case rel => exact ⟨i + 1, by omega, by go_num, by rw [HC2.out], ((HA2.out.drewN 1).set i s).congr HNX.out, (Below.heap_setCell wr ⟨g, i, none⟩ (.int .u64 (s : Int)) w.heap.size (fun e => hgp e.symm)).trans HP2.out, (HT2.out.drewN 1).set _ _⟩
            case measure => first | (simp [intOf]; done) | (simp [intOf]; omega)
          · by_cases h2 : i = W
            · have hx := HX0.out
              rw [← h2] at hx
              have hsub : (i : Int) - (W : Int) = 0 := by omega
              have hge : (W : Int) ≤ (i : Int) := by omega
              have hlt : (i : Int) < (W : Int) + 2 := by omega
              clear h1 h2
              have hxi : limb X i = lo := hx
              have hcl : borrowAt v X i ≤ 1 := borrow_le v X i
              have hcall := call41 (limb v i) (limb X i) (borrowAt v X i) hcl
              rw [← limb_sub v X i, ← borrow_next v X i] at hcall
              rw [hxi] at hcall
              try rw [show ((0 : Nat) : Int) = 0 from rfl] at hcall
              have HNX : Hid (∀ j, j < 24 → (if j < i + 1 then limb (v - X) j else limb v j) = updN (fun j => if j < i then limb (v - X) j else limb v j) i (limb (v - X) i) j) := Lib.hid (fun j hj => by
                unfold updN
                by_cases h1 : j = i
                · subst h1; rw [if_pos rfl, if_pos (by omega)]
                · rw [if_neg h1]
                  by_cases h2 : j < i
                  · rw [if_pos (by omega)]; exact (if_pos h2).symm
                  · rw [if_neg (by omega)]; exact (if_neg h2).symm)
              obtain ⟨a, ha⟩ : ∃ a, limb v i = a := ⟨_, rfl⟩
              rw [ha] at ca hcall
              obtain ⟨c, hc⟩ : ∃ c, borrowAt v X i = c := ⟨_, rfl⟩
              rw [hc] at hcall ⊢
              obtain ⟨s, hs⟩ : ∃ s, limb (v - X) i = s := ⟨_, rfl⟩
              rw [hs] at hcall HNX
              obtain ⟨c2, hc2⟩ : ∃ c, borrowAt v X (i + 1) = c := ⟨_, rfl⟩
              rw [hc2] at hcall
              have HC2 := Lib.hid hc2
              try clear hx
              clear ha hc hs hc2 hcl hxi
              go_wp2
              go_region
              go_wp2
              go_roundw
              case rel => exact ⟨i + 1, by omega, by go_num, by rw [HC2.out], ((HA2.out.drewN 1).set i s).congr HNX.out, (Below.heap_setCell wr ⟨g, i, none⟩ (.int .u64 (s : Int)) w.heap.size (fun e => hgp e.symm)).trans HP2.out, (HT2.out.drewN 1).set _ _⟩
              case measure => first | (simp [intOf]; done) | (simp [intOf]; omega)
            · by_cases h3 : i = W + 1
              · have hx := HX1.out
                rw [← h3] at hx
                have hsub : (i : Int) - (W : Int) = 1 := by omega
                have hge : (W : Int) ≤ (i : Int) := by omega
                have hlt : (i : Int) < (W : Int) + 2 := by omega
                clear h1 h2 h3
                have hxi : limb X i = 0 := hx
                have hcl : borrowAt v X i ≤ 1 := borrow_le v X i
                have hcall := call41 (limb v i) (limb X i) (borrowAt v X i) hcl
                rw [← limb_sub v X i, ← borrow_next v X i] at hcall
                rw [hxi] at hcall
                try rw [show ((0 : Nat) : Int) = 0 from rfl] at hcall
                have HNX : Hid (∀ j, j < 24 → (if j < i + 1 then limb (v - X) j else limb v j) = updN (fun j => if j < i then limb (v - X) j else limb v j) i (limb (v - X) i) j) := Lib.hid (fun j hj => by
                  unfold updN
                  by_cases h1 : j = i
                  · subst h1; rw [if_pos rfl, if_pos (by omega)]
                  · rw [if_neg h1]
                    by_cases h2 : j < i
                    · rw [if_pos (by omega)]; exact (if_pos h2).symm
                    · rw [if_neg (by omega)]; exact (if_neg h2).symm)
                obtain ⟨a, ha⟩ : ∃ a, limb v i = a := ⟨_, rfl⟩
                rw [ha] at ca hcall
                obtain ⟨c, hc⟩ : ∃ c, borrowAt v X i = c := ⟨_, rfl⟩
                rw [hc] at hcall ⊢
                obtain ⟨s, hs⟩ : ∃ s, limb (v - X) i = s := ⟨_, rfl⟩
                rw [hs] at hcall HNX
                obtain ⟨c2, hc2⟩ : ∃ c, borrowAt v X (i + 1) = c := ⟨_, rfl⟩
                rw [hc2] at hcall
                have HC2 := Lib.hid hc2
                try clear hx
                clear ha hc hs hc2 hcl hxi
                go_wp2
                go_region
                go_wp2
                go_roundw
                case rel => exact ⟨i + 1, by omega, by go_num, by rw [HC2.out], ((HA2.out.drewN 1).set i s).congr HNX.out, (Below.heap_setCell wr ⟨g, i, none⟩ (.int .u64 (s : Int)) w.heap.size (fun e => hgp e.symm)).trans HP2.out, (HT2.out.drewN 1).set _ _⟩
                case measure => first | (simp [intOf]; done) | (simp [intOf]; omega)
              · have h4 : (W : Int) + 2 ≤ (i : Int) := by omega
                have hge : (W : Int) ≤ (i : Int) := by omega
                have hxi : limb X i = 0 := HNO.out i (by omega) (by omega)
                have hcl : borrowAt v X i ≤ 1 := borrow_le v X i
                have hcall := call41 (limb v i) (limb X i) (borrowAt v X i) hcl
                rw [← limb_sub v X i, ← borrow_next v X i] at hcall
                rw [hxi] at hcall
                try rw [show ((0 : Nat) : Int) = 0 from rfl] at hcall
                have HNX : Hid (∀ j, j < 24 → (if j < i + 1 then limb (v - X) j else limb v j) = updN (fun j => if j < i then limb (v - X) j else limb v j) i (limb (v - X) i) j) := Lib.hid (fun j hj => by
                  unfold updN
                  by_cases h1 : j = i
                  · subst h1; rw [if_pos rfl, if_pos (by omega)]
                  · rw [if_neg h1]
                    by_cases h2 : j < i
                    · rw [if_pos (by omega)]; exact (if_pos h2).symm
                    · rw [if_neg (by omega)]; exact (if_neg h2).symm)
                obtain ⟨a, ha⟩ : ∃ a, limb v i = a := ⟨_, rfl⟩
                rw [ha] at ca hcall
                obtain ⟨c, hc⟩ : ∃ c, borrowAt v X i = c := ⟨_, rfl⟩
                rw [hc] at hcall ⊢
                obtain ⟨s, hs⟩ : ∃ s, limb (v - X) i = s := ⟨_, rfl⟩
                rw [hs] at hcall HNX
                obtain ⟨c2, hc2⟩ : ∃ c, borrowAt v X (i + 1) = c := ⟨_, rfl⟩
                rw [hc2] at hcall
                have HC2 := Lib.hid hc2
                try clear hx
                clear ha hc hs hc2 hcl hxi
                go_wp2
                go_region
                go_wp2
                go_roundw
                case rel => exact ⟨i + 1, by omega, by go_num, by rw [HC2.out], ((HA2.out.drewN 1).set i s).congr HNX.out, (Below.heap_setCell wr ⟨g, i, none⟩ (.int .u64 (s : Int)) w.heap.size (fun e => hgp e.symm)).trans HP2.out, (HT2.out.drewN 1).set _ _⟩
                case measure => first | (simp [intOf]; done) | (simp [intOf]; omega)
        · have hin2 : i = 24 := by omega
          subst hin2
          go_wp2
          go_end0
          exact ⟨rfl, HA2.out.congr (fun j hj => (if_pos hj).symm), HT2.out⟩
end Go.Proofs.Ytlegkefonpiakaa
