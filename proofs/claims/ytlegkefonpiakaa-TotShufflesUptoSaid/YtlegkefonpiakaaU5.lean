/- Plain law: signs of exact sums; negated lists; lists in another order. Conditions: words of 64 bits. -/
import Derived.Test.YtlegkefonpiakaaU4
namespace Go.Proofs.Ytlegkefonpiakaa
open Ieee (FinW V dR big double wordOf)

attribute [local irreducible] Ieee.V Ieee.Format.rnd fv Ieee.big

theorem dR_fits (z : Int) : dR (dR z) = dR z := double.rnd_of_fits Ieee.hp52 (double.fits_rnd z)
theorem dR_neg (z : Int) : dR (-z) = -dR z := double.rnd_neg z
theorem dR_pos {z : Int} (h : 0 < z) : 0 < dR z := by
  have h0 := rel_err z
  show 0 < dR z
  generalize dR z = d at *
  omega
theorem dR_sign (z : Int) : (dR z < 0 ↔ z < 0) ∧ (dR z = 0 ↔ z = 0) := by
  rcases Int.lt_trichotomy z 0 with h | h | h
  · have := dR_pos (z := -z) (by omega)
    rw [dR_neg] at this
    omega
  · subst h; rw [dR_zero]; omega
  · have := dR_pos h
    omega

theorem cap_list {l : List Nat} (hw : Words l) (h : checkL fitB l = 0) : (sumV l).natAbs ≤ capB := by
  obtain ⟨hl, hf⟩ := checkL_fits h
  have hc : ∀ x ∈ l, FinW x ∧ (V x).natAbs ≤ cap := fun x hx => fit_V (hw x hx) (hf x hx)
  have hcap0 : 0 + l.length * cap ≤ capB := Nat.le_trans (by rw [Nat.zero_add]; exact Nat.mul_le_mul_right _ (by omega)) cap_small
  obtain ⟨r1, r2, r3⟩ := exp_fold capB_big l [] 0 (exp_nil capB) (by simp) hcap0 hc
  have : sumV l = ((l.foldl growW []).map V).sum := by rw [r2]; simp [sumV]
  rw [this]
  exact Nat.le_trans r3 hcap0

theorem word_V {z : Int} (h : z.natAbs ≤ capB) : FinW (wordOf (dR z)) ∧ V (wordOf (dR z)) = dR z := by
  have hb := capB_big
  have hd := dR_le z
  obtain ⟨h1, h2⟩ := Ieee.V_wordOf (z := dR z) (by omega)
  rw [dR_fits] at h1
  exact ⟨h2, h1⟩

theorem sub_zero_word {z : Int} (h : z.natAbs ≤ capB) : FOk .sub 0 (wordOf (dR z)) ∧ fv .sub 0 (wordOf (dR z)) = wordOf (dR (-z)) := by
  have hb := capB_big
  have hd := dR_le z
  obtain ⟨f, v⟩ := word_V h
  obtain ⟨r, h1, h2, h3⟩ := Ieee.sub_some fin_zero f (by rw [v, V_zero]; omega)
  have hy' : FinW (double.word (!double.neg (wordOf (dR z))) (double.rung (wordOf (dR z)))) := Ieee.finw_word _ f.2
  have hv : V (double.word (!double.neg (wordOf (dR z))) (double.rung (wordOf (dR z)))) = -V (wordOf (dR z)) := by
    rw [Ieee.V_word _ f.2]
    unfold Ieee.V Ieee.Format.sval
    cases double.neg (wordOf (dR z)) <;> simp
  have he : double.sub 0 (wordOf (dR z)) = double.add 0 (double.word (!double.neg (wordOf (dR z))) (double.rung (wordOf (dR z)))) := by
    unfold Ieee.Format.sub Ieee.Format.add; rw [Ieee.read_opposite f]
  have ha := Ieee.add_V fin_zero hy' (by rw [V_zero, hv, v]; omega)
  rw [neg_zero_word, hv, v, V_zero, Int.zero_add, Bool.false_and] at ha
  rw [he, ha] at h1
  refine ⟨by rw [FOk_sub, he, ha]; rfl, ?_⟩
  rw [fv_sub, he, ha, dR_neg]
  show double.word _ _ = double.word _ _
  by_cases h0 : -dR z = 0
  · rw [if_pos h0, h0]; rfl
  · rw [if_neg h0]

theorem V_negW {x : Nat} (hx : x < 18446744073709551616) : V (negW x) = -V x := by
  unfold Ieee.V Ieee.Format.sval
  rw [neg_d hx, neg_d (negW_lt hx), rung_d, rung_d, rg_negW, ng_negW hx]
  cases ng x <;> simp

theorem fit_negW (x : Nat) : fitB (negW x) = fitB x := by rw [fit_spec, fit_spec, rg_negW]

theorem check_neg (l : List Nat) : checkL fitB (l.map negW) = checkL fitB l := by
  unfold checkL checkFrom
  rw [List.length_map, List.drop_zero, List.drop_zero, List.all_map]
  have : (fitB ∘ negW) = fitB := funext fit_negW
  rw [this]

theorem sum_neg {l : List Nat} (hw : Words l) : sumV (l.map negW) = -sumV l := by
  induction l with
  | nil => rfl
  | cons x l ih =>
    have h1 := V_negW (hw x (List.mem_cons_self ..))
    have h2 := ih (fun y hy => hw y (List.mem_cons_of_mem _ hy))
    unfold sumV at *
    simp only [List.map_cons, List.sum_cons]
    rw [h1, h2]; omega

theorem words_neg {l : List Nat} (hw : Words l) : Words (l.map negW) := by
  intro x hx
  obtain ⟨y, hy, rfl⟩ := List.mem_map.1 hx
  exact negW_lt (hw y hy)

/-- negated numbers have the negated sum -/
theorem exact_neg {l : List Nat} (hw : Words l) : FOk .sub 0 (exactR fitB l) ∧ fv .sub 0 (exactR fitB l) = exactR fitB (l.map negW) := by
  unfold exactR
  rw [check_neg]
  by_cases h : checkL fitB l = 0
  · rw [if_pos h, if_pos h, (exact_law hw h).2, (exact_law (words_neg hw) (by rw [check_neg]; exact h)).2, sum_neg hw]
    exact sub_zero_word (cap_list hw h)
  · rw [if_neg h, if_neg h]
    refine ⟨by unfold FOk; decide +kernel, by unfold fv; decide +kernel⟩

theorem cap_dot {a b : List Nat} (wa : Words a) (wb : Words b) (h : dotErr fitB a b = 0) : (dotV a b a.length).natAbs ≤ capB := by
  obtain ⟨ka, kb, hlen⟩ := dotErr_zero h
  obtain ⟨la, fa⟩ := checkL_fits ka
  obtain ⟨lb, fb⟩ := checkL_fits kb
  have hb : ∀ k, k ≤ a.length → (dotV a b k).natAbs ≤ 2 * k * cap := by
    intro k
    induction k with
    | zero => intro _; simp [dotV]
    | succ k ih =>
      intro hk
      have ma := getD_mem (show k < a.length from by omega)
      have mb := getD_mem (show k < b.length from by omega)
      obtain ⟨r1, r2, r3, r4, r5, _⟩ := prod_V (wa _ ma) (wb _ mb) (fa _ ma) (fb _ mb)
      have := ih (by omega)
      unfold dotV pV
      have e : 2 * (k + 1) * cap = 2 * k * cap + cap + cap := by grind
      rw [e]
      have h1 := Int.natAbs_add_le (dotV a b k) (V (prodP (a.getD k 0) (b.getD k 0)) + V (prodE (a.getD k 0) (b.getD k 0)))
      have h2 := Int.natAbs_add_le (V (prodP (a.getD k 0) (b.getD k 0))) (V (prodE (a.getD k 0) (b.getD k 0)))
      omega
  exact Nat.le_trans (hb _ (Nat.le_refl _)) (Nat.le_trans (Nat.mul_le_mul_right _ (by omega)) cap_small)

/-- Sign is Dot's -/
theorem dot_sign {a b : List Nat} (wa : Words a) (wb : Words b) :
    (signR fitB a b = 1 ∧ (o64 (dotR fitB a b) 0 == some .gt) = true ∧ (o64 (dotR fitB a b) 0 == some .lt) = false) ∨
    (signR fitB a b = 0 ∧ (o64 (dotR fitB a b) 0 == some .gt) = false ∧ (o64 (dotR fitB a b) 0 == some .lt) = false) ∨
    (signR fitB a b = -1 ∧ (o64 (dotR fitB a b) 0 == some .gt) = false ∧ (o64 (dotR fitB a b) 0 == some .lt) = true) := by
  unfold signR dotR
  by_cases h : dotErr fitB a b = 0
  · rw [if_pos h, if_pos h]
    obtain ⟨_, h2, h3⟩ := dot_law wa wb h
    obtain ⟨f, v⟩ := word_V (cap_dot wa wb h)
    rw [h2, h3, o64_V f fin_zero, v, V_zero]
    obtain ⟨s1, s2⟩ := dR_sign (dotV a b a.length)
    generalize dotV a b a.length = S at *
    generalize dR S = d at *
    rcases Int.lt_trichotomy S 0 with h | h | h
    · right; right
      rw [cmp_lt.2 (s1.2 h)]
      exact ⟨Int.sign_eq_neg_one_of_neg h, rfl, rfl⟩
    · right; left
      rw [cmp_eq.2 (s2.2 h), h]
      exact ⟨rfl, rfl, rfl⟩
    · left
      rw [cmp_gt.2 (by omega)]
      exact ⟨Int.sign_eq_one_of_pos h, rfl, rfl⟩
  · rw [if_neg h, if_neg h]
    right; left
    refine ⟨rfl, by decide +kernel, by decide +kernel⟩

/-! ### another order -/
theorem check_perm {l m : List Nat} (h : l.Perm m) : checkL fitB l = checkL fitB m := by
  unfold checkL checkFrom
  rw [h.length_eq, List.drop_zero, List.drop_zero]
  have : l.all fitB = m.all fitB := by
    rw [Bool.eq_iff_iff, List.all_eq_true, List.all_eq_true]
    exact ⟨fun hl x hx => hl x (h.mem_iff.2 hx), fun hl x hx => hl x (h.mem_iff.1 hx)⟩
  rw [this]
theorem sum_perm {l m : List Int} (h : l.Perm m) : l.sum = m.sum := by
  induction h with
  | nil => rfl
  | cons x _ ih => rw [List.sum_cons, List.sum_cons, ih]
  | swap x y l => simp only [List.sum_cons]; omega
  | trans _ _ i1 i2 => rw [i1, i2]
theorem exact_perm {l m : List Nat} (hw : Words l) (h : l.Perm m) : exactR fitB l = exactR fitB m := by
  have hw2 : Words m := fun x hx => hw x (h.mem_iff.2 hx)
  unfold exactR
  rw [check_perm h]
  by_cases h0 : checkL fitB m = 0
  · rw [if_pos h0, if_pos h0, (exact_law hw (by rw [check_perm h]; exact h0)).2, (exact_law hw2 h0).2]
    have : sumV l = sumV m := sum_perm (h.map V)
    rw [this]
  · rw [if_neg h0, if_neg h0]

def swapL {α : Type} : List α → List α
  | x :: y :: r => y :: x :: swapL r
  | l => l
theorem swapL_perm {α : Type} : ∀ l : List α, (swapL l).Perm l
  | [] => List.Perm.refl _
  | [_] => List.Perm.refl _
  | x :: y :: r => (((swapL_perm r).cons x).cons y).trans (List.Perm.swap x y r)
def turnL {α : Type} (l : List α) (at_ : Nat) : List α := swapL (l.drop at_ ++ l.take at_)
theorem turnL_perm {α : Type} (l : List α) (at_ : Nat) : (turnL l at_).Perm l :=
  (swapL_perm _).trans (List.perm_append_comm.trans (by rw [List.take_append_drop]))
theorem swapL_zip {α β : Type} : ∀ (a : List α) (b : List β), a.length = b.length → (swapL a).zip (swapL b) = swapL (a.zip b)
  | [], [], _ => rfl
  | [_], [_], _ => rfl
  | x :: y :: r, u :: v :: s, h => by
    have := swapL_zip r s (by simpa using h)
    simp [swapL, this]
  | [], _ :: _, h => by simp at h
  | _ :: _, [], h => by simp at h
  | [_], _ :: _ :: _, h => by simp at h
  | _ :: _ :: _, [_], h => by simp at h
theorem turnL_zip {α β : Type} (a : List α) (b : List β) (at_ : Nat) (h : a.length = b.length) : (turnL a at_).zip (turnL b at_) = turnL (a.zip b) at_ := by
  unfold turnL
  rw [swapL_zip _ _ (by simp [h]), List.zip_append (by simp [h])]
  simp only [List.zip, List.drop_zipWith, List.take_zipWith]

theorem dotV_zip (a b : List Nat) (h : a.length = b.length) : ∀ k, k ≤ a.length → dotV a b k = (((a.zip b).take k).map (fun p => pV p.1 p.2)).sum := by
  intro k
  induction k with
  | zero => intro _; simp [dotV]
  | succ k ih =>
    intro hk
    have hz : k < (a.zip b).length := by simp; omega
    unfold dotV
    rw [ih (by omega), List.take_succ_eq_append_getElem hz, List.map_append, List.sum_append]
    simp [List.getD, List.getElem?_eq_getElem (show k < a.length from by omega), List.getElem?_eq_getElem (show k < b.length from by omega)]

theorem words_perm {l m : List Nat} (hw : Words l) (h : l.Perm m) : Words m := fun x hx => hw x (h.mem_iff.2 hx)

theorem dot_turn {a b : List Nat} (wa : Words a) (wb : Words b) (hl : a.length = b.length) (at_ : Nat) :
    dotErr fitB (turnL a at_) (turnL b at_) = dotErr fitB a b ∧ dotR fitB (turnL a at_) (turnL b at_) = dotR fitB a b ∧ signR fitB (turnL a at_) (turnL b at_) = signR fitB a b := by
  have pa := turnL_perm a at_
  have pb := turnL_perm b at_
  have he : dotErr fitB (turnL a at_) (turnL b at_) = dotErr fitB a b := by
    unfold dotErr
    rw [check_perm pa, check_perm pb, pa.length_eq, pb.length_eq]
  refine ⟨he, ?_⟩
  unfold dotR signR
  rw [he]
  by_cases h : dotErr fitB a b = 0
  · simp only [if_pos h]
    obtain ⟨_, h2, h3⟩ := dot_law wa wb h
    obtain ⟨_, h4, h5⟩ := dot_law (words_perm wa pa.symm) (words_perm wb pb.symm) (by rw [he]; exact h)
    have : dotV (turnL a at_) (turnL b at_) (turnL a at_).length = dotV a b a.length := by
      rw [dotV_zip _ _ (by rw [pa.length_eq, pb.length_eq]; exact hl) _ (Nat.le_refl _), dotV_zip _ _ hl _ (Nat.le_refl _), turnL_zip a b at_ hl]
      rw [List.take_of_length_le (by have := (turnL_perm (a.zip b) at_).length_eq; rw [this, pa.length_eq]; simp; omega), List.take_of_length_le (by simp; omega)]
      exact sum_perm ((turnL_perm (a.zip b) at_).map _)
    rw [h2, h3, h4, h5, this]
    exact ⟨rfl, rfl⟩
  · simp only [if_neg h]; exact ⟨trivial, trivial⟩
end Go.Proofs.Ytlegkefonpiakaa
