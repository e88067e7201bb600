/- Plain law: the exact sums of lists and of products: the word of the rounded sum. Conditions: words of 64 bits, fit. -/
import Derived.Test.YtlegkefonpiakaaU3
namespace Go.Proofs.Ytlegkefonpiakaa
open Ieee (FinW V dR big double wordOf)

attribute [local irreducible] Ieee.V Ieee.Format.rnd fv Ieee.big

def capBE : Nat := 1510
def gapE : Nat := 490
def capB : Nat := 2 ^ capBE
theorem cap_small : 600 * cap ≤ capB := by
  unfold capB cap capBE
  rw [show 1510 = 10 + capE from rfl, Nat.pow_add]
  exact Nat.mul_le_mul_right _ (by decide)
theorem capB_big : 1100 * capB ≤ big := by
  unfold big capB
  rw [show Ieee.bigE = gapE + capBE from rfl, Nat.pow_add]
  exact Nat.mul_le_mul_right _ (by decide +kernel)

/-- words of 64 bits -/
def Words (l : List Nat) : Prop := ∀ x ∈ l, x < 18446744073709551616

theorem fit_V {x : Nat} (hx : x < 18446744073709551616) (h : fitB x = true) : FinW x ∧ (V x).natAbs ≤ cap := by
  obtain ⟨A, i, s, _, _, i2⟩ := fit_form hx h
  refine ⟨s.f, ?_⟩
  rw [s.v]
  exact cap_scale (by have := s.b; omega) (by omega)

theorem checkL_fits {l : List Nat} (h : checkL fitB l = 0) : l.length ≤ 256 ∧ ∀ x ∈ l, fitB x = true := by
  have hl := checkL_le h
  refine ⟨hl, ?_⟩
  unfold checkL checkFrom at h
  rw [if_neg (by omega), List.drop_zero] at h
  split at h
  · rename_i ha; exact fun x hx => List.all_eq_true.1 ha x hx
  · omega

def sumV (l : List Nat) : Int := (l.map V).sum

/-- THE EXACT SUM -/
theorem exact_law {l : List Nat} (hw : Words l) (h : checkL fitB l = 0) : ExactOk l ∧ exactW l = wordOf (dR (sumV l)) := by
  obtain ⟨hl, hf⟩ := checkL_fits h
  have hc : ∀ x ∈ l, FinW x ∧ (V x).natAbs ≤ cap := fun x hx => fit_V (hw x hx) (hf x hx)
  have hcap : (l.length + 1) * cap ≤ capB := Nat.le_trans (Nat.mul_le_mul_right _ (by omega)) cap_small
  have hcap0 : 0 + l.length * cap ≤ capB := Nat.le_trans (by rw [Nat.zero_add]; exact Nat.mul_le_mul_right _ (by omega)) cap_small
  obtain ⟨r1, r2, r3⟩ := exp_fold capB_big l [] 0 (exp_nil capB) (by simp) hcap0 hc
  have e : expW l l.length = l.foldl growW [] := by unfold expW; rw [List.take_length]
  obtain ⟨q1, q2⟩ := rounded_law r1 capB_big
  refine ⟨⟨?_, by rw [e]; exact q1⟩, ?_⟩
  · intro k hk
    refine exp_fold_ok capB_big (l.take k) (l.getD k 0) ?_ (fun y hy => hc y (List.mem_of_mem_take hy)) (hc _ (getD_mem hk))
    exact Nat.le_trans (Nat.mul_le_mul_right _ (by rw [List.length_take]; omega)) hcap
  · unfold exactW
    rw [e, q2, r2]
    simp [sumV]

/-! ### products -/
def dotL (a b : List Nat) : Nat → List Nat
  | 0 => []
  | k + 1 => dotL a b k ++ [prodE (a.getD k 0) (b.getD k 0), prodP (a.getD k 0) (b.getD k 0)]
theorem dotW_fold (a b : List Nat) : ∀ k, dotW a b k = (dotL a b k).foldl growW []
  | 0 => rfl
  | k + 1 => by
    unfold dotW dotStep dotL
    rw [List.foldl_append, ← dotW_fold a b k]; rfl
theorem dotL_length (a b : List Nat) : ∀ k, (dotL a b k).length = 2 * k
  | 0 => rfl
  | k + 1 => by unfold dotL; rw [List.length_append, dotL_length a b k]; rfl

def pV (x y : Nat) : Int := V (prodP x y) + V (prodE x y)
def dotV (a b : List Nat) : Nat → Int
  | 0 => 0
  | k + 1 => dotV a b k + pV (a.getD k 0) (b.getD k 0)
theorem dotL_sum (a b : List Nat) : ∀ k, ((dotL a b k).map V).sum = dotV a b k
  | 0 => rfl
  | k + 1 => by
    unfold dotL dotV pV
    rw [List.map_append, List.sum_append, dotL_sum a b k]
    simp only [List.map_cons, List.map_nil, List.sum_cons, List.sum_nil]
    omega

theorem sgn_rising {ys : List Nat} {B : Nat} (he : Exp B ys) : signW ys = (ys.map V).sum.sign := by
  unfold signW
  by_cases hl : ys.length = 0
  · rw [if_pos hl]
    have : ys = [] := List.eq_nil_of_length_eq_zero hl
    subst this; rfl
  · rw [if_neg hl]
    have hlt : ys.length - 1 < ys.length := by omega
    have hmem := getD_mem hlt
    rw [lt0_V (he.fin _ hmem)]
    obtain ⟨_, h2⟩ := Ieee.falling_sum _ (Ieee.falling_reverse _ he.rising)
    have hd : ((ys.map V).reverse).headD 0 = V (ys.getD (ys.length - 1) 0) := by
      rw [← List.map_reverse]
      cases hr : ys.reverse with
      | nil => simp at hr; subst hr; simp at hl
      | cons a t =>
        have : ys = t.reverse ++ [a] := by rw [← List.reverse_reverse ys, hr]; simp
        subst this
        simp
    obtain ⟨h3, h4⟩ := h2 (by intro e; apply hl; have := congrArg List.length e; simpa using this)
    rw [hd, List.sum_reverse] at h4
    rw [List.sum_reverse] at h3
    generalize (ys.map V).sum = s at *
    generalize V (ys.getD (ys.length - 1) 0) = v at *
    by_cases hs : s < 0
    · rw [decide_eq_true hs] at h4
      rw [← h4, if_pos rfl, Int.sign_eq_neg_one_of_neg hs]
    · rw [decide_eq_false hs] at h4
      rw [← h4, if_neg (by decide), Int.sign_eq_one_of_pos (by omega)]

/-- THE EXACT SUM OF PRODUCTS -/
theorem dot_law {a b : List Nat} (wa : Words a) (wb : Words b) (h : dotErr fitB a b = 0) :
    DotOk a b ∧ roundedW (dotW a b a.length) = wordOf (dR (dotV a b a.length)) ∧ signW (dotW a b a.length) = (dotV a b a.length).sign := by
  obtain ⟨ka, kb, hlen⟩ := dotErr_zero h
  obtain ⟨la, fa⟩ := checkL_fits ka
  obtain ⟨lb, fb⟩ := checkL_fits kb
  have hp : ∀ k, k < a.length → ProdOk (a.getD k 0) (b.getD k 0) ∧ (FinW (prodP (a.getD k 0) (b.getD k 0)) ∧ (V (prodP (a.getD k 0) (b.getD k 0))).natAbs ≤ cap) ∧ (FinW (prodE (a.getD k 0) (b.getD k 0)) ∧ (V (prodE (a.getD k 0) (b.getD k 0))).natAbs ≤ cap) := by
    intro k hk
    have ma := getD_mem hk
    have mb := getD_mem (show k < b.length from by omega)
    obtain ⟨r1, r2, r3, r4, r5, _⟩ := prod_V (wa _ ma) (wb _ mb) (fa _ ma) (fb _ mb)
    exact ⟨r1, ⟨r2, r4⟩, r3, r5⟩
  have hall : ∀ k, k ≤ a.length → ∀ z ∈ dotL a b k, FinW z ∧ (V z).natAbs ≤ cap := by
    intro k
    induction k with
    | zero => intro _ z hz; cases hz
    | succ k ih =>
      intro hk z hz
      unfold dotL at hz
      rcases List.mem_append.1 hz with hz | hz
      · exact ih (by omega) z hz
      · obtain ⟨_, p, e⟩ := hp k (by omega)
        rcases List.mem_cons.1 hz with rfl | hz
        · exact e
        · rw [List.mem_singleton] at hz; subst hz; exact p
  have hcap : ∀ n, n ≤ 600 → n * cap ≤ capB := fun n hn => Nat.le_trans (Nat.mul_le_mul_right _ hn) cap_small
  obtain ⟨r1, r2, r3⟩ := exp_fold capB_big (dotL a b a.length) [] 0 (exp_nil capB) (by simp) (by rw [Nat.zero_add, dotL_length]; exact hcap _ (by omega)) (hall _ (Nat.le_refl _))
  rw [← dotW_fold] at r1 r2
  rw [dotL_sum] at r2
  have r2' : ((dotW a b a.length).map V).sum = dotV a b a.length := by rw [r2]; simp
  obtain ⟨q1, q2⟩ := rounded_law r1 capB_big
  have hs := sgn_rising r1
  rw [r2'] at q2 hs
  refine ⟨⟨fun k hk => (hp k hk).1, ?_, ?_, q1⟩, q2, hs⟩
  · intro k hk
    rw [dotW_fold]
    exact exp_fold_ok capB_big (dotL a b k) _ (by rw [dotL_length]; exact hcap _ (by omega)) (hall k (by omega)) (hp k hk).2.2
  · intro k hk
    have e : growW (dotW a b k) (prodE (a.getD k 0) (b.getD k 0)) = (dotL a b k ++ [prodE (a.getD k 0) (b.getD k 0)]).foldl growW [] := by
      rw [List.foldl_append, ← dotW_fold]; rfl
    rw [e]
    refine exp_fold_ok capB_big _ _ (by rw [List.length_append, dotL_length]; exact hcap _ (by simp; omega)) ?_ (hp k hk).2.1
    intro z hz
    rcases List.mem_append.1 hz with hz | hz
    · exact hall k (by omega) z hz
    · rw [List.mem_singleton] at hz; subst hz; exact (hp k hk).2.2
end Go.Proofs.Ytlegkefonpiakaa
