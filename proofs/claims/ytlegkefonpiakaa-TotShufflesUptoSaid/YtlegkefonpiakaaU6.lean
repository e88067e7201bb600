/- Plain law: a list begun at another place, neighbours changed about: as loops build it. -/
import Derived.Test.YtlegkefonpiakaaU5
namespace Go.Proofs.Ytlegkefonpiakaa

def rotK (l : List Nat) (at_ k : Nat) : List Nat := (List.range k).map fun i => l.getD ((i + at_) % l.length) 0
theorem rotK_succ (l : List Nat) (at_ k : Nat) : rotK l at_ (k + 1) = rotK l at_ k ++ [l.getD ((k + at_) % l.length) 0] := by
  unfold rotK; rw [List.range_succ, List.map_append]; rfl
theorem rotK_length (l : List Nat) (at_ k : Nat) : (rotK l at_ k).length = k := by simp [rotK]
theorem rotK_all (l : List Nat) (at_ : Nat) (h : at_ < l.length ∨ l = []) : rotK l at_ l.length = l.drop at_ ++ l.take at_ := by
  rcases h with h | rfl
  · apply List.ext_getElem
    · simp [rotK]; omega
    · intro i h1 h2
      have hi : i < l.length := by simpa [rotK] using h1
      simp only [rotK, List.getElem_map, List.getElem_range]
      by_cases hlt : i + at_ < l.length
      · rw [Nat.mod_eq_of_lt hlt, List.getElem_append_left (by simp; omega), List.getElem_drop]
        rw [List.getD_eq_getElem?_getD, List.getElem?_eq_getElem hlt, Option.getD_some]
        congr 1; omega
      · have e : (i + at_) % l.length = i + at_ - l.length := by
          rw [Nat.mod_eq_sub_mod (by omega), Nat.mod_eq_of_lt (by omega)]
        rw [e, List.getElem_append_right (by simp; omega), List.getElem_take]
        have hlt2 : i + at_ - l.length < l.length := by omega
        simp only [List.getD, List.getElem?_eq_getElem hlt2, Option.getD_some, List.length_drop]
        congr 1
        omega
  · simp [rotK]

theorem swapL_even : ∀ (a r : List Nat), a.length % 2 = 0 → swapL (a ++ r) = swapL a ++ swapL r
  | [], r, _ => rfl
  | [_], _, h => by simp at h
  | x :: y :: a, r, h => by
    show y :: x :: swapL (a ++ r) = _
    rw [swapL_even a r (by simp only [List.length_cons] at h; omega)]; rfl

/-- after j pairs -/
def swK (b : List Nat) (j : Nat) : List Nat := swapL (b.take (2 * j)) ++ b.drop (2 * j)
theorem swK_length (b : List Nat) (j : Nat) : (swK b j).length = b.length := by
  unfold swK
  rw [List.length_append, (swapL_perm _).length_eq, ← List.length_append, List.take_append_drop]
theorem swK_zero (b : List Nat) : swK b 0 = b := rfl
theorem swK_end (b : List Nat) (j : Nat) (h : b.length ≤ 2 * j + 1) (h2 : 2 * j ≤ b.length) : swK b j = swapL b := by
  unfold swK
  conv => rhs; rw [← List.take_append_drop (2 * j) b, swapL_even _ _ (by simp; omega)]
  congr 1
  match hd : b.drop (2 * j) with
  | [] => rfl
  | [_] => rfl
  | x :: y :: r =>
    have := congrArg List.length hd
    simp at this; omega
theorem swK_succ (b : List Nat) (j : Nat) (h : 2 * j + 1 < b.length) :
    swK b (j + 1) = ((swK b j).set (2 * j) ((swK b j).getD (2 * j + 1) 0)).set (2 * j + 1) ((swK b j).getD (2 * j) 0) := by
  have e1 : b.drop (2 * j) = b[2 * j] :: b[2 * j + 1] :: b.drop (2 * (j + 1)) := by
    rw [List.drop_eq_getElem_cons (show 2 * j < b.length from by omega), List.drop_eq_getElem_cons (show 2 * j + 1 < b.length from h)]; rfl
  have e2 : b.take (2 * (j + 1)) = b.take (2 * j) ++ [b[2 * j], b[2 * j + 1]] := by
    rw [show 2 * (j + 1) = 2 * j + 1 + 1 from by omega, List.take_succ_eq_append_getElem h, List.take_succ_eq_append_getElem (show 2 * j < b.length from by omega), List.append_assoc]; rfl
  have hl : (swapL (b.take (2 * j))).length = 2 * j := by rw [(swapL_perm _).length_eq]; simp; omega
  unfold swK
  rw [e2, swapL_even _ _ (by simp; omega), e1]
  generalize swapL (b.take (2 * j)) = p at *
  have g0 : (p ++ b[2 * j] :: b[2 * j + 1] :: b.drop (2 * (j + 1))).getD (2 * j) 0 = b[2 * j] := by
    simp [List.getD, hl]
  have g1 : (p ++ b[2 * j] :: b[2 * j + 1] :: b.drop (2 * (j + 1))).getD (2 * j + 1) 0 = b[2 * j + 1] := by
    simp [List.getD, hl]
  rw [g0, g1, List.set_append_right _ _ (by omega), List.set_append_right _ _ (by omega), hl]
  simp [swapL, show 2 * j + 1 - 2 * j = 1 from by omega]
end Go.Proofs.Ytlegkefonpiakaa
