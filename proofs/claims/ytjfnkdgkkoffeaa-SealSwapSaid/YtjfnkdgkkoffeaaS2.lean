/- Plain law: what was sealed is read; what is read is sealed so; said of Seal's and Read's answers. Conditions: none. -/
import Derived.Test.YtjfnkdgkkoffeaaR8
namespace Go.Proofs.Ytjfnkdgkkoffeaa
open SealLaw

theorem sealK_drop (ls : List Bytes) : ∀ k, k ≤ ls.length → (sealK ls k).1 ++ sealT (sealK ls k).2 (ls.drop k) = sealT 0 ls
  | 0, _ => rfl
  | k + 1, h => by
    rw [← sealK_drop ls k (by omega)]
    have hd : ls.drop k = ls.getD k [] :: ls.drop (k + 1) := by
      rw [List.drop_eq_getElem_cons (show k < ls.length from h), List.getD_eq_getElem?_getD, List.getElem?_eq_getElem (show k < ls.length from h)]; rfl
    rw [hd]
    show ((sealK ls k).1 ++ (ls.getD k [] ++ 32 :: (hexL (sumN (sealK ls k).2 (ls.getD k [])) ++ [10]))) ++ sealT (sumN (sealK ls k).2 (ls.getD k [])) (ls.drop (k + 1)) = _
    conv => rhs; rw [sealT]
    simp
theorem sealK_all (ls : List Bytes) : (sealK ls ls.length).1 = sealT 0 ls := by
  have := sealK_drop ls ls.length (Nat.le_refl _)
  rw [List.drop_length, sealT, List.append_nil] at this
  exact this
theorem sealErr_zero {ls : List Bytes} (h : sealErr ls = 0) : ls.length ≤ 1024 ∧ longK ls ls.length ≤ 65536 ∧ ∀ l ∈ ls, (10 : UInt8) ∉ l := by
  unfold sealErr at h
  split at h
  · omega
  · split at h
    · omega
    · split at h
      · omega
      · rename_i h1 h2 h3
        refine ⟨by omega, by omega, ?_⟩
        intro l hl h10
        apply h3
        exact List.any_eq_true.2 ⟨l, hl, by unfold badL; exact List.contains_iff_mem.2 h10⟩
theorem sealErr_of {ls : List Bytes} (h1 : ls.length ≤ 1024) (h2 : longK ls ls.length ≤ 65536) (h3 : ∀ l ∈ ls, (10 : UInt8) ∉ l) : sealErr ls = 0 := by
  unfold sealErr
  rw [if_neg (by omega), if_neg (by omega), if_neg]
  intro h
  obtain ⟨l, hl, hb⟩ := List.any_eq_true.1 h
  exact h3 l hl (List.contains_iff_mem.1 hb)
theorem firstBad_none : ∀ (Y : List Nat) (i : Nat), firstBad Y i = none → ∀ e ∈ Y, e = 0
  | [], _, _, e, he => by cases he
  | y :: ys, i, h, e, he => by
    have h' : (if y = 0 then firstBad ys (i + 1) else some (i, y)) = none := h
    by_cases hy : y = 0
    · rw [if_pos hy] at h'
      rcases List.mem_cons.1 he with rfl | he
      · exact hy
      · exact firstBad_none ys _ h' e he
    · rw [if_neg hy] at h'; cases h'
theorem firstBad_zero : ∀ (n i : Nat), firstBad (List.replicate n 0) i = none
  | 0, _ => rfl
  | n + 1, i => by
    rw [List.replicate_succ]
    show (if 0 = 0 then firstBad (List.replicate n 0) (i + 1) else _) = none
    rw [if_pos rfl]; exact firstBad_zero n _
theorem firstBad_some : ∀ (Y : List Nat) (i : Nat) (p : Nat × Nat), firstBad Y i = some p → p.2 ≠ 0
  | y :: ys, i, p, h => by
    have h' : (if y = 0 then firstBad ys (i + 1) else some (i, y)) = some p := h
    by_cases hy : y = 0
    · rw [if_pos hy] at h'; exact firstBad_some ys _ p h'
    · rw [if_neg hy] at h'; cases h'; exact hy

/-- what was sealed is read -/
theorem read_sealed {ls : List Bytes} (h : sealErr ls = 0) : readR (sealT 0 ls) = (ls, 0, 0) := by
  obtain ⟨h1, h2, h3⟩ := sealErr_zero h
  have hc := cut_sealT 0 ls h3
  have hlen : (sealT 0 ls).length ≤ 65536 := by rw [← sealK_all, sealK_length ls _ (Nat.le_refl _)]; exact h2
  have he : lookErr (sealT 0 ls) = 0 := by
    unfold lookErr
    rw [hc, if_neg (by omega), if_neg (by simp only [sealLs_length]; omega), if_neg (by simp)]
  unfold readR lookR
  rw [if_pos he, if_pos he, hc, look_sealed (by decide)]
  show readOf ls (firstBad (List.replicate ls.length 0) 0) = _
  rw [firstBad_zero]; rfl

/-- what is read is sealed so -/
theorem seal_read {t : Bytes} : ((readR t).2.2 ≠ 0 ∧ (readR t).1 = []) ∨ ((readR t).2.2 = 0 ∧ (readR t).2.1 = 0 ∧ sealErr (readR t).1 = 0 ∧ sealT 0 (readR t).1 = t) := by
  unfold readR
  by_cases he : lookErr t = 0
  · rw [if_pos he]
    cases hf : firstBad (lookR t).2 0 with
    | some p => exact Or.inl ⟨firstBad_some _ _ p hf, rfl⟩
    | none =>
      refine Or.inr ⟨rfl, rfl, ?_⟩
      show sealErr (lookR t).1 = 0 ∧ sealT 0 (lookR t).1 = t
      have hz := firstBad_none _ _ hf
      unfold lookR at hz ⊢
      rw [if_pos he] at hz ⊢
      have hs := sealed_of_look (s := 0) (by decide) (cutL t).1 hz
      have hle : (cutL t).1.length ≤ 1024 ∧ (cutL t).2 = [] ∧ t.length ≤ 65536 := by
        unfold lookErr at he
        split at he
        · omega
        · split at he
          · omega
          · split at he
            · omega
            · rename_i h1 h2 h3
              exact ⟨by omega, by simpa using h3, by omega⟩
      have hj := cutL_join t
      rw [hle.2.1] at hj
      have ht : sealT 0 (lookL 0 (cutL t).1).1 = t := by rw [sealT_join, hs, hj]
      refine ⟨sealErr_of ?_ ?_ ?_, ht⟩
      · rw [(lookL_length _ _).1]; exact hle.1
      · rw [← sealK_length _ _ (Nat.le_refl _), sealK_all, ht]; exact hle.2.2
      · intro l hl h10
        obtain ⟨i, hi, rfl⟩ := List.mem_iff_getElem.1 hl
        have hn := cutL_no10 t
        have hil : i < (cutL t).1.length := by rw [← (lookL_length 0 (cutL t).1).1]; exact hi
        have hg := sealLs_get (lookL 0 (cutL t).1).1 0 i _ (List.getElem?_eq_getElem hi)
        rw [hs, List.getElem?_eq_getElem hil] at hg
        have hm := hn _ (List.getElem_mem hil)
        rw [Option.some.inj hg] at hm
        exact hm (List.mem_append.2 (Or.inl h10))
  · rw [if_neg he]
    exact Or.inl ⟨he, rfl⟩
end Go.Proofs.Ytjfnkdgkkoffeaa
