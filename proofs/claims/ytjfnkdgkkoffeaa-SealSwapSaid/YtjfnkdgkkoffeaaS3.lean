/- Plain law: one byte turned, two bytes changed about: what Look and Read say. Conditions: lines that Seal does not refuse. -/
import Derived.Test.YtjfnkdgkkoffeaaS2
namespace Go.Proofs.Ytjfnkdgkkoffeaa
open SealLaw

theorem firstBad_at : ∀ (Y : List Nat) (N i y : Nat), (∀ k, k < N → Y[k]? = some 0) → Y[N]? = some y → y ≠ 0 → firstBad Y i = some (i + N, y)
  | [], N, i, y, _, h, _ => by simp at h
  | z :: zs, 0, i, y, _, h, hy => by
    simp at h; subst h
    show (if z = 0 then _ else _) = _
    rw [if_neg hy]; rfl
  | z :: zs, N + 1, i, y, h0, h, hy => by
    have hz : z = 0 := by have := h0 0 (by omega); simpa using this
    show (if z = 0 then firstBad zs (i + 1) else _) = _
    rw [if_pos hz, firstBad_at zs N (i + 1) y (fun k hk => by have := h0 (k + 1) (by omega); simpa using this) (by simpa using h) hy]
    congr 2; omega

theorem text_fits {ls : List Bytes} (h : sealErr ls = 0) : (sealT 0 ls).length ≤ 65536 := by
  obtain ⟨_, h2, _⟩ := sealErr_zero h
  rw [← sealK_all, sealK_length ls _ (Nat.le_refl _)]; exact h2

theorem look_ok {u : Bytes} {us : List Bytes} (h1 : u.length ≤ 65536) (hc : cutL u = (us, [])) (h2 : us.length ≤ 1024) : lookErr u = 0 ∧ lookR u = lookL 0 us := by
  have he : lookErr u = 0 := by
    unfold lookErr
    rw [hc, if_neg (by omega), if_neg (by simp only; omega), if_neg (by simp)]
  refine ⟨he, ?_⟩
  unfold lookR
  rw [if_pos he, hc]

/-- one byte turned -/
theorem byte_law {ls : List Bytes} (h : sealErr ls = 0) {i : Nat} (hi : i < (sealT 0 ls).length) {d : UInt8} (hc : (sealT 0 ls).getD i 0 ≠ 10) (hd : d ≠ 10) (hcd : (sealT 0 ls).getD i 0 ≠ d) :
    ∃ y, readR ((sealT 0 ls).take i ++ d :: (sealT 0 ls).drop (i + 1)) = ([], (((sealT 0 ls).take i).filter (· == 10)).length + 1, y) ∧ (y = 90 ∨ y = 230) ∧
      lookErr ((sealT 0 ls).take i ++ d :: (sealT 0 ls).drop (i + 1)) = 0 ∧ (lookR ((sealT 0 ls).take i ++ d :: (sealT 0 ls).drop (i + 1))).2.length = ls.length ∧
      ∀ k, k < ls.length → k ≠ (((sealT 0 ls).take i).filter (· == 10)).length → k ≠ (((sealT 0 ls).take i).filter (· == 10)).length + 1 → (lookR ((sealT 0 ls).take i ++ d :: (sealT 0 ls).drop (i + 1))).2.getD k 0 = 0 := by
  obtain ⟨h1, _, h3⟩ := sealErr_zero h
  have hfit := text_fits h
  have hg : (sealT 0 ls).getD i 0 = (sealT 0 ls)[i] := by rw [List.getD_eq_getElem?_getD, List.getElem?_eq_getElem hi]; rfl
  have hs : sealT 0 ls = (sealT 0 ls).take i ++ (sealT 0 ls).getD i 0 :: (sealT 0 ls).drop (i + 1) := by
    rw [hg, List.getElem_cons_drop, List.take_append_drop]
  obtain ⟨us, hcut, hlen, hN, hothers, hat⟩ := byte_told h3 hs hc hd hcd
  have hul : ((sealT 0 ls).take i ++ d :: (sealT 0 ls).drop (i + 1)).length ≤ 65536 := by
    rw [List.length_append, List.length_take, List.length_cons, List.length_drop]; omega
  obtain ⟨he, hl⟩ := look_ok hul hcut (by omega)
  generalize (((sealT 0 ls).take i).filter (· == 10)).length = N at *
  have hy : ∃ y, (lookL 0 us).2[N]? = some y ∧ (y = 90 ∨ y = 230) := by
    rcases hat with h | h
    · exact ⟨90, h, Or.inl rfl⟩
    · exact ⟨230, h, Or.inr rfl⟩
  obtain ⟨y, hy1, hy2⟩ := hy
  refine ⟨y, ?_, hy2, he, by rw [hl, (lookL_length _ _).2, hlen], ?_⟩
  · unfold readR
    rw [if_pos he, hl, firstBad_at _ N 0 y (fun k hk => hothers k (by omega) (by omega) (by omega)) hy1 (by omega)]
    show ([], 0 + N + 1, y) = _
    rw [Nat.zero_add]
  · intro k hk k1 k2
    rw [hl, List.getD_eq_getElem?_getD, hothers k hk k1 k2]; rfl

/-- two unlike neighbours changed about -/
theorem swap_law {ls : List Bytes} (h : sealErr ls = 0) {n j : Nat} (hn : n < ls.length) (hj : j + 1 < (ls.getD n []).length) (hne : (ls.getD n []).getD j 0 ≠ (ls.getD n []).getD (j + 1) 0) :
    ∃ A B, sealT 0 ls = A ++ (ls.getD n []).getD j 0 :: (ls.getD n []).getD (j + 1) 0 :: B ∧ A.length = fromL ls n + j ∧
      lookErr (A ++ (ls.getD n []).getD (j + 1) 0 :: (ls.getD n []).getD j 0 :: B) = 0 ∧ (lookR (A ++ (ls.getD n []).getD (j + 1) 0 :: (ls.getD n []).getD j 0 :: B)).2.length = ls.length ∧
      ∀ k, k < ls.length → (lookR (A ++ (ls.getD n []).getD (j + 1) 0 :: (ls.getD n []).getD j 0 :: B)).2.getD k 0 = if k = n then 230 else 0 := by
  obtain ⟨h1, _, h3⟩ := sealErr_zero h
  have hfit := text_fits h
  have hgn : ls[n]? = some (ls.getD n []) := by rw [List.getD_eq_getElem?_getD, List.getElem?_eq_getElem hn]; rfl
  generalize ls.getD n [] = l at *
  have hg0 : l.getD j 0 = l[j] := by rw [List.getD_eq_getElem?_getD, List.getElem?_eq_getElem (by omega)]; rfl
  have hg1 : l.getD (j + 1) 0 = l[j + 1] := by rw [List.getD_eq_getElem?_getD, List.getElem?_eq_getElem hj]; rfl
  have hs : l = l.take j ++ l.getD j 0 :: l.getD (j + 1) 0 :: l.drop (j + 1 + 1) := by
    rw [hg0, hg1, List.getElem_cons_drop, List.getElem_cons_drop, List.take_append_drop]
  obtain ⟨A, B, us, hA, hAl, hcut, hlen, hat, hothers⟩ := swap_told h3 hgn hs hne
  rw [List.length_take, Nat.min_eq_left (by omega)] at hAl
  have hul : (A ++ l.getD (j + 1) 0 :: l.getD j 0 :: B).length ≤ 65536 := by
    rw [hA] at hfit
    simp only [List.length_append, List.length_cons] at hfit ⊢
    omega
  obtain ⟨he, hl⟩ := look_ok hul hcut (by omega)
  refine ⟨A, B, hA, hAl, he, by rw [hl, (lookL_length _ _).2, hlen], ?_⟩
  intro k hk
  rw [hl, List.getD_eq_getElem?_getD]
  by_cases hkn : k = n
  · subst hkn; rw [hat, if_pos rfl]; rfl
  · rw [hothers k hk hkn, if_neg hkn]; rfl
end Go.Proofs.Ytjfnkdgkkoffeaa
