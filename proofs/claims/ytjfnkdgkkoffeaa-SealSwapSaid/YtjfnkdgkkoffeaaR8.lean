/- Walks: lists held against each other; awake. Conditions: none. -/
import Derived.Test.YtjfnkdgkkoffeaaR7
namespace Go.Proofs.Ytjfnkdgkkoffeaa
open Go.RowKit SealLaw

/-- a list of strings that lies in memory -/
def SIn (w : World) (v : Value) (l : List Bytes) : Prop := ∃ A ca, v = .slice A l.length ca ∧ ∀ i, i < l.length → ∃ g o, A = some ⟨g, o, none⟩ ∧ w.cell? ⟨g, o + i, none⟩ = some (.string ⟨(l.getD i []).toArray⟩)
def EIn (w : World) (v : Value) (l : List Nat) : Prop := ∃ A ca, v = .slice A l.length ca ∧ ∀ i, i < l.length → ∃ g o, A = some ⟨g, o, none⟩ ∧ w.cell? ⟨g, o + i, none⟩ = some (.int .i64 (l.getD i 0 : Nat))
theorem sin_own {w : World} {base : Nat} {v : Value} {l : List Bytes} (h : w.ownsRow base 9 1 v l.length (strs l)) : SIn w v l := by
  obtain ⟨A, ca, rfl⟩ := own_form h
  refine ⟨A, ca, rfl, fun i hi => ?_⟩
  obtain ⟨g, rfl, hc⟩ := str_cell h hi
  exact ⟨g, 0, rfl, by rw [Nat.zero_add]; exact hc⟩
theorem ein_own {w : World} {base : Nat} {v : Value} {l : List Nat} (h : w.ownsRow base 25 1 v l.length (errs l)) : EIn w v l := by
  obtain ⟨A, ca, rfl⟩ := own_form h
  refine ⟨A, ca, rfl, fun i hi => ?_⟩
  obtain ⟨g, rfl, hc⟩ := err_cell h hi
  exact ⟨g, 0, rfl, by rw [Nat.zero_add]; exact hc⟩

set_option maxHeartbeats 1000000 in
theorem same_any (v u : Value) (a b : List Bytes) (w : World) (ha : SIn w v a) (hb : SIn w u b) (hm : a.length ≤ 9223372036854775807) (_hm2 : b.length ≤ 9223372036854775807) :
    Calls Try.prog 11 #[v, u] w fun e w' => e = .returned (.bool (decide (a = b))) ∧ Drawn w w' := by
  obtain ⟨A, ca, rfl, ha⟩ := ha
  obtain ⟨B, cb, rfl, hb⟩ := hb
  obtain ⟨D, hD⟩ : ∃ D, decide (a = b) = D := ⟨_, rfl⟩
  rw [hD]
  have HD := Lib.hid hD
  have HA := Lib.hid ha
  have HB := Lib.hid hb
  clear ha hb hD _hm2
  by_cases hl : a.length = b.length
  · have hne : ((a.length : Int) != (b.length : Int)) = false := by rw [hl]; simp
    have HLL := Lib.hid hl
    clear hl
    go_enter Try.func11, Try.ntmps11
    go_wp2
    go_loopw [5] (fun vi wr => ∃ k : Nat, k ≤ a.length ∧ vi = .int .i64 k ∧ (∀ i, i < k → a.getD i [] = b.getD i []) ∧ Drawn w wr) (fun vi _ => a.length - (intOf vi).toNat)
    case atStart => exact ⟨0, Nat.zero_le _, rfl, (fun i hi => absurd hi (Nat.not_lt_zero i)), Drawn.refl _⟩
    case round =>
      obtain ⟨k, hk, rfl, heq, ⟨md, rfl⟩⟩ := hrel
      have HE := Lib.hid heq
      clear heq
      by_cases h : k < a.length
      · obtain ⟨g, o, rfl, hc1⟩ := HA.out k h
        obtain ⟨g2, o2, rfl, hc2⟩ := HB.out k (by have := HLL.out; omega)
        have hkb : k < b.length := by have := HLL.out; omega
        by_cases hx : a.getD k [] = b.getD k []
        · have HX : Hid (∀ i, i < k + 1 → a.getD i [] = b.getD i []) := Lib.hid (fun i hi => by
            rcases Nat.lt_or_eq_of_le (Nat.le_of_lt_succ hi) with h | h
            · exact HE.out i h
            · subst h; exact hx)
          rw [hx] at hc1
          obtain ⟨z, hz⟩ : ∃ z, b.getD k [] = z := ⟨_, rfl⟩
          rw [hz] at hc1 hc2
          clear hx hz
          go_wp2
          go_region
          all_goals (try go_wp2)
          go_roundw
          case rel => exact ⟨k + 1, by omega, by go_num, HX.out, ⟨_, rfl⟩⟩
          case measure => first | (simp [intOf]; done) | (simp [intOf]; omega)
        · have hDf : D = false := by
            rw [← HD.out, decide_eq_false_iff_not]; intro e; exact hx (by rw [e])
          have HDF := Lib.hid hDf
          obtain ⟨z, hz⟩ : ∃ z, a.getD k [] = z := ⟨_, rfl⟩
          obtain ⟨y, hy⟩ : ∃ y, b.getD k [] = y := ⟨_, rfl⟩
          rw [hz, hy] at hx
          rw [hz] at hc1
          rw [hy] at hc2
          obtain ⟨zz, hzz⟩ : ∃ zz : ByteArray, ⟨z.toArray⟩ = zz := ⟨_, rfl⟩
          obtain ⟨yy, hyy⟩ : ∃ yy : ByteArray, ⟨y.toArray⟩ = yy := ⟨_, rfl⟩
          have hz3 : (zz.toList == yy.toList) = false := by
            rw [← hzz, ← hyy, ByteArray.toList_eq, ByteArray.toList_eq, beq_eq_false_iff_ne]
            exact hx
          rw [hzz] at hc1
          rw [hyy] at hc2
          clear hzz hyy
          clear hx hz hy hDf
          go_wp2
          go_region
          all_goals (try go_wp2)
          go_ret
          exact ⟨by rw [HDF.out]; rfl, ⟨_, rfl⟩⟩
      · have hkl : k = a.length := by omega
        have hDt : D = true := by
          rw [← HD.out, decide_eq_true_eq]
          apply List.ext_getElem HLL.out
          intro i h1 h2
          have := HE.out i (by omega)
          rw [List.getD_eq_getElem?_getD, List.getD_eq_getElem?_getD, List.getElem?_eq_getElem h1, List.getElem?_eq_getElem h2] at this
          exact this
        have HDT := Lib.hid hDt
        clear hDt
        subst hkl
        go_wp2
        go_ret
        exact ⟨by rw [HDT.out]; rfl, ⟨_, rfl⟩⟩
  · have hne : ((a.length : Int) != (b.length : Int)) = true := by rw [bne_iff_ne]; omega
    have hDf : D = false := by
      rw [← HD.out, decide_eq_false_iff_not]; intro e; exact hl (by rw [e])
    have HDF := Lib.hid hDf
    clear hl hDf
    go_enter Try.func11, Try.ntmps11
    go_wp2
    go_ret
    exact ⟨by rw [HDF.out]; rfl, Drawn.refl _⟩

set_option maxHeartbeats 1000000 in
theorem errors_any (v u : Value) (a b : List Nat) (w : World) (ha : EIn w v a) (hb : EIn w u b) (hm : a.length ≤ 9223372036854775807) (_hm2 : b.length ≤ 9223372036854775807) :
    Calls Try.prog 12 #[v, u] w fun e w' => e = .returned (.bool (decide (a = b))) ∧ Drawn w w' := by
  obtain ⟨A, ca, rfl, ha⟩ := ha
  obtain ⟨B, cb, rfl, hb⟩ := hb
  obtain ⟨D, hD⟩ : ∃ D, decide (a = b) = D := ⟨_, rfl⟩
  rw [hD]
  have HD := Lib.hid hD
  have HA := Lib.hid ha
  have HB := Lib.hid hb
  clear ha hb hD _hm2
  by_cases hl : a.length = b.length
  · have hne : ((a.length : Int) != (b.length : Int)) = false := by rw [hl]; simp
    have HLL := Lib.hid hl
    clear hl
    go_enter Try.func12, Try.ntmps12
    go_wp2
    go_loopw [5] (fun vi wr => ∃ k : Nat, k ≤ a.length ∧ vi = .int .i64 k ∧ (∀ i, i < k → a.getD i 0 = b.getD i 0) ∧ Drawn w wr) (fun vi _ => a.length - (intOf vi).toNat)
    case atStart => exact ⟨0, Nat.zero_le _, rfl, (fun i hi => absurd hi (Nat.not_lt_zero i)), Drawn.refl _⟩
    case round =>
      obtain ⟨k, hk, rfl, heq, ⟨md, rfl⟩⟩ := hrel
      have HE := Lib.hid heq
      clear heq
      by_cases h : k < a.length
      · obtain ⟨g, o, rfl, hc1⟩ := HA.out k h
        obtain ⟨g2, o2, rfl, hc2⟩ := HB.out k (by have := HLL.out; omega)
        have hkb : k < b.length := by have := HLL.out; omega
        by_cases hx : a.getD k 0 = b.getD k 0
        · have HX : Hid (∀ i, i < k + 1 → a.getD i 0 = b.getD i 0) := Lib.hid (fun i hi => by
            rcases Nat.lt_or_eq_of_le (Nat.le_of_lt_succ hi) with h | h
            · exact HE.out i h
            · subst h; exact hx)
          rw [hx] at hc1
          obtain ⟨z, hz⟩ : ∃ z, b.getD k 0 = z := ⟨_, rfl⟩
          rw [hz] at hc1 hc2
          clear hx hz
          go_wp2
          go_region
          all_goals (try go_wp2)
          go_roundw
          case rel => exact ⟨k + 1, by omega, by go_num, HX.out, ⟨_, rfl⟩⟩
          case measure => first | (simp [intOf]; done) | (simp [intOf]; omega)
        · have hDf : D = false := by
            rw [← HD.out, decide_eq_false_iff_not]; intro e; exact hx (by rw [e])
          have HDF := Lib.hid hDf
          obtain ⟨z, hz⟩ : ∃ z, a.getD k 0 = z := ⟨_, rfl⟩
          obtain ⟨y, hy⟩ : ∃ y, b.getD k 0 = y := ⟨_, rfl⟩
          rw [hz, hy] at hx
          rw [hz] at hc1
          rw [hy] at hc2
          have hz2 : ((z : Int) != (y : Int)) = true := by rw [bne_iff_ne]; omega
          clear hx hz hy hDf
          go_wp2
          go_region
          all_goals (try go_wp2)
          go_ret
          exact ⟨by rw [HDF.out]; rfl, ⟨_, rfl⟩⟩
      · have hkl : k = a.length := by omega
        have hDt : D = true := by
          rw [← HD.out, decide_eq_true_eq]
          apply List.ext_getElem HLL.out
          intro i h1 h2
          have := HE.out i (by omega)
          rw [List.getD_eq_getElem?_getD, List.getD_eq_getElem?_getD, List.getElem?_eq_getElem h1, List.getElem?_eq_getElem h2] at this
          exact this
        have HDT := Lib.hid hDt
        clear hDt
        subst hkl
        go_wp2
        go_ret
        exact ⟨by rw [HDT.out]; rfl, ⟨_, rfl⟩⟩
  · have hne : ((a.length : Int) != (b.length : Int)) = true := by rw [bne_iff_ne]; omega
    have hDf : D = false := by
      rw [← HD.out, decide_eq_false_iff_not]; intro e; exact hl (by rw [e])
    have HDF := Lib.hid hDf
    clear hl hDf
    go_enter Try.func12, Try.ntmps12
    go_wp2
    go_ret
    exact ⟨by rw [HDF.out]; rfl, Drawn.refl _⟩

theorem awake_seal : sealErr [[97], []] = 0 ∧ (⟨(sealK [[97], []] 2).1.toArray⟩ : ByteArray) = ⟨#[97, 32, 48, 48, 48, 48, 48, 48, 54, 50, 10, 32, 48, 48, 48, 48, 48, 48, 54, 50, 10]⟩ := by
  constructor
  · decide +kernel
  · have : (sealK [[97], []] 2).1 = [97, 32, 48, 48, 48, 48, 48, 48, 54, 50, 10, 32, 48, 48, 48, 48, 48, 48, 54, 50, 10] := by decide +kernel
    rw [this]

set_option maxHeartbeats 1000000 in
theorem awake_any (w : World) : Calls Try.prog 7 #[] w fun e w' => e = .returned (.bool true) ∧ Below w.heap.size w w' := by
  have hown : (w.alloc (.cells #[.string ⟨#[97]⟩, .string ⟨#[]⟩] 9)).ownsRow w.heap.size 9 1 (.slice (some ⟨w.heap.size, 0, none⟩) 2 2) 2 (strs [[97], []]) :=
    ⟨rfl, Or.inr ⟨w.heap.size, 2, _, rfl, Nat.le_refl _, heap_alloc_new w _, Nat.le_refl _, by unfold maxLen; omega, rfl, rfl⟩⟩
  have hs := fun W h => seal_any [[97], []] w.heap.size (.slice (some ⟨w.heap.size, 0, none⟩) 2 2) W h (by decide) (by decide)
  rw [awake_seal.1, if_pos rfl] at hs
  rw [show ([[97], []] : List Bytes).length = 2 from rfl, awake_seal.2] at hs
  have h2 := hs _ hown
  have HB := Lib.hid ((Below.refl w.heap.size w).alloc (Nat.le_refl _) (.cells #[.string ⟨#[97]⟩, .string ⟨#[]⟩] 9))
  clear hs hown
  go_enter Try.func7, Try.ntmps7
  go_wp2_with fail
  refine h2.mono ?_
  rintro e w1 ⟨rfl, hb⟩
  have HB1 := Lib.hid (HB.out.trans (hb.mono HB.out.size))
  clear hb h2
  go_wp2
  go_ret
  exact ⟨rfl, HB1.out⟩
end Go.Proofs.Ytjfnkdgkkoffeaa
