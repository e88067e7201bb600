/- Plain law: where a line's letters lie in the sealed text. Conditions: none. -/
import Derived.Test.YtjfnkdgkkoffeaaS3
namespace Go.Proofs.Ytjfnkdgkkoffeaa
open SealLaw

theorem place_law {ls : List Bytes} {n j : Nat} (hn : n < ls.length) (hj : j + 1 < (ls.getD n []).length) :
    ∃ A B, sealT 0 ls = A ++ (ls.getD n []).getD j 0 :: (ls.getD n []).getD (j + 1) 0 :: B ∧ A.length = fromL ls n + j := by
  have hgn : ls[n]? = some (ls.getD n []) := by rw [List.getD_eq_getElem?_getD, List.getElem?_eq_getElem hn]; rfl
  generalize ls.getD n [] = l at *
  have hg0 : l.getD j 0 = l[j] := by rw [List.getD_eq_getElem?_getD, List.getElem?_eq_getElem (by omega)]; rfl
  have hg1 : l.getD (j + 1) 0 = l[j + 1] := by rw [List.getD_eq_getElem?_getD, List.getElem?_eq_getElem hj]; rfl
  have hs : l = l.take j ++ l.getD j 0 :: l.getD (j + 1) 0 :: l.drop (j + 1 + 1) := by
    rw [hg0, hg1, List.getElem_cons_drop, List.getElem_cons_drop, List.take_append_drop]
  have hS := sealLs_get ls 0 n l hgn
  have hlt : n < (sealLs 0 ls).length := by rw [sealLs_length]; exact hn
  have hsplit : sealLs 0 ls = (sealLs 0 ls).take n ++ (l ++ 32 :: hexL (sumN (SealLaw.ahead 0 ls n) l)) :: (sealLs 0 ls).drop (n + 1) := by
    have e : (sealLs 0 ls)[n] = l ++ 32 :: hexL (sumN (SealLaw.ahead 0 ls n) l) := by
      rw [List.getElem?_eq_getElem hlt] at hS; exact Option.some.inj hS
    rw [← e, List.getElem_cons_drop, List.take_append_drop]
  have ht := joinL_take ls 0 n
  generalize hexL (sumN (SealLaw.ahead 0 ls n) l) = hx at *
  refine ⟨joinL ((sealLs 0 ls).take n) [] ++ l.take j, l.drop (j + 1 + 1) ++ 32 :: hx ++ 10 :: joinL ((sealLs 0 ls).drop (n + 1)) [], ?_, ?_⟩
  · rw [sealT_join]
    conv => lhs; rw [hsplit, joinL_append]
    conv => lhs; rw [hs]
    simp
  · rw [List.length_append, ht, List.length_take, Nat.min_eq_left (by omega)]
end Go.Proofs.Ytjfnkdgkkoffeaa
