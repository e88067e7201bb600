/- Plain law: what tot's words are worth: sums as two, expansions grown. Conditions: finite words, far below overflow. -/
import Derived.Test.YtlegkefonpiakaaT6
import Derived.Test.YtlegkefonpiakaaFlH
namespace Go.Proofs.Ytlegkefonpiakaa
open Ieee (FinW V dR big double)

theorem fv_add (x y : Nat) : fv .add x y = (double.add x y).getD 0 := rfl
theorem fv_sub (x y : Nat) : fv .sub x y = (double.sub x y).getD 0 := rfl
theorem fv_mul (x y : Nat) : fv .mul x y = (double.mul x y).getD 0 := rfl
theorem FOk_add (x y : Nat) : FOk .add x y = ((double.add x y).isSome = true) := rfl
theorem FOk_sub (x y : Nat) : FOk .sub x y = ((double.sub x y).isSome = true) := rfl
theorem FOk_mul (x y : Nat) : FOk .mul x y = ((double.mul x y).isSome = true) := rfl

theorem w_add {x y : Nat} (hx : FinW x) (hy : FinW y) (hb : (V x + V y).natAbs ≤ big) : FOk .add x y ∧ FinW (fv .add x y) ∧ V (fv .add x y) = dR (V x + V y) := by
  obtain ⟨r, h1, h2, h3⟩ := Ieee.add_some hx hy hb
  rw [FOk_add, fv_add, h1]; exact ⟨rfl, h2, h3⟩
theorem w_sub {x y : Nat} (hx : FinW x) (hy : FinW y) (hb : (V x - V y).natAbs ≤ big) : FOk .sub x y ∧ FinW (fv .sub x y) ∧ V (fv .sub x y) = dR (V x - V y) := by
  obtain ⟨r, h1, h2, h3⟩ := Ieee.sub_some hx hy hb
  rw [FOk_sub, fv_sub, h1]; exact ⟨rfl, h2, h3⟩
theorem w_mul {x y : Nat} (hx : FinW x) (hy : FinW y) {M : Int} (hM : V x * V y = M * 2 ^ Ieee.deepD) (hb : M.natAbs ≤ big) : FOk .mul x y ∧ FinW (fv .mul x y) ∧ V (fv .mul x y) = dR M := by
  obtain ⟨r, h1, h2, h3⟩ := Ieee.mul_some hx hy hM hb
  rw [FOk_mul, fv_mul, h1]; exact ⟨rfl, h2, h3⟩

theorem dR_le (z : Int) : (dR z).natAbs ≤ 2 * z.natAbs := by
  have := double.rnd_near Ieee.hp52 z double.fits_zero
  unfold dR
  omega

theorem fin_zero : FinW 0 := by refine ⟨by omega, ?_⟩; decide
theorem V_zero : V 0 = 0 := by decide
attribute [local irreducible] Ieee.V Ieee.Format.rnd fv Ieee.big
theorem b_add {x y : Nat} {m n : Nat} (hx : FinW x ∧ (V x).natAbs ≤ m) (hy : FinW y ∧ (V y).natAbs ≤ n) (hb : m + n ≤ big) : FOk .add x y ∧ (FinW (fv .add x y) ∧ (V (fv .add x y)).natAbs ≤ 2 * (m + n)) ∧ V (fv .add x y) = dR (V x + V y) := by
  have h0 : (V x + V y).natAbs ≤ m + n := Nat.le_trans (Int.natAbs_add_le _ _) (Nat.add_le_add hx.2 hy.2)
  obtain ⟨o, f, v⟩ := w_add hx.1 hy.1 (Nat.le_trans h0 hb)
  refine ⟨o, ⟨f, ?_⟩, v⟩
  rw [v]
  exact Nat.le_trans (dR_le _) (Nat.mul_le_mul_left 2 h0)
theorem b_sub {x y : Nat} {m n : Nat} (hx : FinW x ∧ (V x).natAbs ≤ m) (hy : FinW y ∧ (V y).natAbs ≤ n) (hb : m + n ≤ big) : FOk .sub x y ∧ (FinW (fv .sub x y) ∧ (V (fv .sub x y)).natAbs ≤ 2 * (m + n)) ∧ V (fv .sub x y) = dR (V x - V y) := by
  have h0 : (V x - V y).natAbs ≤ m + n := Nat.le_trans (Int.natAbs_sub_le _ _) (Nat.add_le_add hx.2 hy.2)
  obtain ⟨o, f, v⟩ := w_sub hx.1 hy.1 (Nat.le_trans h0 hb)
  refine ⟨o, ⟨f, ?_⟩, v⟩
  rw [v]
  exact Nat.le_trans (dR_le _) (Nat.mul_le_mul_left 2 h0)

theorem le_of_le {a M G c : Nat} (h : 100 * M ≤ G) (hc : c ≤ 100) (ha : a = c * M) : a ≤ G := by
  rw [ha]; exact Nat.le_trans (Nat.mul_le_mul_right _ hc) h
/-- a sum as two -/
theorem two_V {a b : Nat} (ha : FinW a) (hb : FinW b) {M : Nat} (hMa : (V a).natAbs ≤ M) (hMb : (V b).natAbs ≤ M) (hM : 100 * M ≤ big) :
    TwoOk a b ∧ FinW (twoS a b) ∧ V (twoS a b) = dR (V a + V b) ∧ FinW (twoE a b) ∧ V (twoE a b) = V a + V b - dR (V a + V b) := by
  have h := double.two_sum Ieee.hp52 (a := V a) (b := V b) Ieee.V_fits Ieee.V_fits
  have A := And.intro ha hMa
  have B := And.intro hb hMb
  clear ha hMa hb hMb
  obtain ⟨o1, f1, v1⟩ := b_add A B (by clear h; omega)
  obtain ⟨o2, f2, v2⟩ := b_sub f1 A (le_of_le (c := 5) hM (by decide) (by clear h; grind))
  obtain ⟨o3, f3, v3⟩ := b_sub f1 f2 (le_of_le (c := 14) hM (by decide) (by clear h; grind))
  obtain ⟨o4, f4, v4⟩ := b_sub A f3 (le_of_le (c := 29) hM (by decide) (by clear h; grind))
  obtain ⟨o5, f5, v5⟩ := b_sub B f2 (le_of_le (c := 11) hM (by decide) (by clear h; grind))
  obtain ⟨o6, f6, v6⟩ := b_add f4 f5 (le_of_le (c := 80) hM (by decide) (by clear h; grind))
  refine ⟨⟨o1, o2, o3, o4, o5, o6⟩, f1.1, v1, f6.1, ?_⟩
  show V (fv .add (fv .sub a (fv .sub (fv .add a b) (fv .sub (fv .add a b) a))) (fv .sub b (fv .sub (fv .add a b) a))) = _
  rw [v6, v4, v5, v3, v2, v1]
  exact h

theorem o64_V {x y : Nat} (hx : FinW x) (hy : FinW y) : o64 x y = some (compare (V x) (V y)) := Ieee.order_V hx hy

theorem cmp_lt {a b : Int} : compare a b = .lt ↔ a < b := by
  simp only [compare, compareOfLessAndEq]; split
  · simp_all
  · split <;> simp_all
theorem cmp_eq {a b : Int} : compare a b = .eq ↔ a = b := by
  simp only [compare, compareOfLessAndEq]; split
  · simp_all; omega
  · split <;> simp_all

theorem zb_V {x : Nat} (hx : FinW x) : zb x = decide (V x = 0) := by
  unfold zb; rw [o64_V hx fin_zero, V_zero]
  by_cases h : V x = 0
  · rw [cmp_eq.2 h, decide_eq_true h]; rfl
  · rw [decide_eq_false h, beq_eq_false_iff_ne]; intro e; exact h (cmp_eq.1 (Option.some.inj e))
theorem nz_V {x : Nat} (hx : FinW x) : nz x = decide (V x ≠ 0) := by
  rw [nz_eq, zb_V hx]; by_cases h : V x = 0 <;> simp [h]
theorem lt0_V {x : Nat} (hx : FinW x) : lt0 x = decide (V x < 0) := by
  unfold lt0; rw [o64_V hx fin_zero, V_zero]
  by_cases h : V x < 0
  · rw [cmp_lt.2 h, decide_eq_true h]; rfl
  · rw [decide_eq_false h, beq_eq_false_iff_ne]; intro e; exact h (cmp_lt.1 (Option.some.inj e))

/-! ### rising parts -/
theorem rising_left : ∀ {a b : List Int}, Ieee.Rising (a ++ b) → Ieee.Rising a
  | [], _, _ => trivial
  | _ :: a, _, h => ⟨h.1, fun y hy => h.2.1 y (List.mem_append.2 (Or.inl hy)), rising_left (a := a) h.2.2⟩
theorem rising_right : ∀ {a b : List Int}, Ieee.Rising (a ++ b) → Ieee.Rising b
  | [], _, h => h
  | _ :: a, _, h => rising_right (a := a) h.2.2
theorem rising_above : ∀ {a b : List Int}, Ieee.Rising (a ++ b) → ∀ x ∈ a, ∀ y ∈ b, Ieee.Above x y
  | [], _, _, x, hx, _, _ => by cases hx
  | c :: a, b, h, x, hx, y, hy => by
    rcases List.mem_cons.1 hx with rfl | hx
    · exact h.2.1 y (List.mem_append.2 (Or.inr hy))
    · exact rising_above (a := a) h.2.2 x hx y hy

theorem rising_sum {l : List Int} (h : Ieee.Rising l) {Y : Nat} (hY : ∀ a ∈ l, a.natAbs ≤ Y) : l.sum.natAbs ≤ 2 * Y := by
  obtain ⟨h1, _⟩ := Ieee.falling_sum _ (Ieee.falling_reverse l h)
  rw [List.sum_reverse] at h1
  cases hl : l.reverse with
  | nil =>
    have : l = [] := by simpa using hl
    rw [this]; simp
  | cons a as' =>
    rw [hl] at h1
    have ha : a ∈ l := by rw [← List.mem_reverse, hl]; exact List.mem_cons_self ..
    have h0 : a ≠ 0 := by
      have := Ieee.falling_reverse l h
      rw [hl] at this; exact this.1
    obtain ⟨j, hj, hle⟩ := Ieee.pow_top_le h0
    have h2 : l.sum.natAbs < 2 ^ Ieee.top a := h1
    rw [hj, Nat.pow_succ] at h2
    have := hY a ha
    omega

/-- the error is small beside what was rounded -/
theorem rel_err (z : Int) : 9007199254740992 * (z - dR z).natAbs ≤ z.natAbs := by
  have hB : double.binade = 4503599627370496 := by decide
  by_cases hsm : z.natAbs < 9007199254740992
  · have : dR z = z := double.rnd_of_fits Ieee.hp52 (double.fits_of (k := 0) (by simp) (by rw [hB, Nat.pow_zero]; omega))
    rw [this]; simp
  · have hz : z.natAbs ≠ 0 := by omega
    obtain ⟨m, hm⟩ : ∃ m, z.natAbs.log2 = m + 53 := by
      refine ⟨z.natAbs.log2 - 53, ?_⟩
      have : 53 ≤ z.natAbs.log2 := (Nat.le_log2 hz).2 (by rw [show (2 : Nat) ^ 53 = 9007199254740992 from by decide]; omega)
      omega
    have h1 := Nat.log2_self_le hz
    have h2 := @Nat.lt_log2_self z.natAbs
    rw [hm] at h1 h2
    have h3 := double.rnd_close Ieee.hp52 (z := z) (m := m + 1) (by
      rw [hB, Nat.pow_succ]
      have e : (2 : Nat) ^ (m + 53 + 1) = 9007199254740992 * (2 ^ m * 2) := by
        rw [show m + 53 + 1 = 53 + (m + 1) from by omega, Nat.pow_add, Nat.pow_succ]; rfl
      omega)
    have e2 : (2 : Nat) ^ (m + 53) = 9007199254740992 * 2 ^ m := by rw [show m + 53 = 53 + m from by omega, Nat.pow_add]
    rw [Nat.pow_succ] at h3
    have h4 : (z - dR z).natAbs = (double.rnd z - z).natAbs := by unfold dR; omega
    omega

/-! ### an expansion grown -/
/-- what holds of an expansion in words -/
structure Exp (B : Nat) (ys : List Nat) : Prop where
  fin : ∀ y ∈ ys, FinW y
  rising : Ieee.Rising (ys.map V)
  small : ∀ y ∈ ys, (V y).natAbs ≤ 2 * B

theorem getD_mem {l : List Nat} {k : Nat} (h : k < l.length) : l.getD k 0 ∈ l := by
  rw [List.getD_eq_getElem?_getD, List.getElem?_eq_getElem h]; exact List.getElem_mem h

theorem growR_cons (y : Int) (ys : List Int) (x : Int) : double.growR (y :: ys) x = if x + y - dR (x + y) = 0 then double.growR ys (dR (x + y)) else (x + y - dR (x + y)) :: double.growR ys (dR (x + y)) := rfl

structure GrowInv (B : Nat) (ys : List Nat) (x k : Nat) (st : List Nat × Nat) : Prop where
  fx : FinW st.2
  fo : ∀ o ∈ st.1, FinW o ∧ 9007199254740992 * (V o).natAbs ≤ 11 * B
  split : double.growR (ys.map V) (V x) = st.1.map V ++ double.growR ((ys.drop k).map V) (V st.2)
  sum : V st.2 + (st.1.map V).sum = V x + ((ys.take k).map V).sum

theorem grow_bound {B : Nat} {ys : List Nat} {x k : Nat} (he : Exp B ys) (hX : (V x).natAbs ≤ B) (h : GrowInv B ys x k (growSt ys x k)) : (V (growSt ys x k).2).natAbs ≤ 9 * B := by
  have hr : Ieee.Rising (double.growR (ys.map V) (V x)) := double.grow_rising Ieee.hp52 _ _ Ieee.V_fits (by intro y hy; obtain ⟨z, _, rfl⟩ := List.mem_map.1 hy; exact Ieee.V_fits) he.rising
  rw [h.split] at hr
  have s1 := rising_sum (rising_left hr) (Y := B) (by
    intro a ha
    obtain ⟨o, ho, rfl⟩ := List.mem_map.1 ha
    have := (h.fo o ho).2
    omega)
  have hpre : Ieee.Rising ((ys.take k).map V) := by
    have := he.rising
    rw [← List.take_append_drop k ys, List.map_append] at this
    exact rising_left this
  have s2 := rising_sum hpre (Y := 2 * B) (by
    intro a ha
    obtain ⟨o, ho, rfl⟩ := List.mem_map.1 ha
    exact he.small o (List.mem_of_mem_take ho))
  have := h.sum
  omega

theorem grow_inv {B : Nat} {ys : List Nat} {x : Nat} (he : Exp B ys) (hx : FinW x) (hX : (V x).natAbs ≤ B) (hB : 1100 * B ≤ big) : ∀ k, k ≤ ys.length → GrowInv B ys x k (growSt ys x k) ∧ ∀ j, j < k → TwoOk (growSt ys x j).2 (ys.getD j 0) := by
  intro k
  induction k with
  | zero =>
    intro _
    refine ⟨⟨hx, ?_, ?_, ?_⟩, fun j hj => by omega⟩
    · intro o ho; simp [growSt] at ho
    · simp [growSt]
    · simp [growSt]
  | succ k ih =>
    intro hk
    obtain ⟨hi, hok⟩ := ih (by omega)
    have hb := grow_bound he hX hi
    have hy := he.fin _ (getD_mem (show k < ys.length from by omega))
    have hys := he.small _ (getD_mem (show k < ys.length from by omega))
    obtain ⟨t1, t2, t3, t4, t5⟩ := two_V hi.fx hy (M := 11 * B) (by omega) (by omega) (by omega)
    have hdrop : ys.drop k = ys.getD k 0 :: ys.drop (k + 1) := by
      rw [List.drop_eq_getElem_cons (show k < ys.length from by omega)]
      congr 1
      rw [List.getD_eq_getElem?_getD, List.getElem?_eq_getElem (show k < ys.length from by omega)]; rfl
    have htake : (ys.take (k + 1)).map V = (ys.take k).map V ++ [V (ys.getD k 0)] := by
      rw [List.take_succ_eq_append_getElem (show k < ys.length from by omega), List.map_append]
      congr 1
      rw [List.getD_eq_getElem?_getD, List.getElem?_eq_getElem (show k < ys.length from by omega)]; rfl
    have hst := growSt_succ (x := x) (show k < ys.length from by omega)
    have hrel := rel_err (V (growSt ys x k).2 + V (ys.getD k 0))
    rw [← t5] at hrel
    refine ⟨?_, ?_⟩
    · have hsplit := hi.split
      rw [hdrop, List.map_cons] at hsplit
      rw [hst]
      have hb11 : (V (growSt ys x k).2 + V (ys.getD k 0)).natAbs ≤ 11 * B := by clear hrel t5 t3 hsplit; omega
      clear hst t1 hok ih hx hX hk hy hb hys
      have hsum := hi.sum
      have hfo := hi.fo
      clear hi
      generalize growSt ys x k = st at *
      generalize ys.getD k 0 = y at *
      unfold growStep
      by_cases hz : V (twoE st.2 y) = 0
      · have hnz : nz (twoE st.2 y) = false := by rw [nz_V t4]; simp [hz]
        rw [hnz]
        refine ⟨t2, hfo, ?_, ?_⟩
        · rw [hsplit]
          congr 1
          rw [t3]
          rw [growR_cons]
          rw [if_pos (by rw [← hz, t5])]
        · have := hsum
          rw [htake, List.sum_append]
          show V (twoS st.2 y) + (st.1.map V).sum = _
          rw [t3]
          simp only [List.sum_cons, List.sum_nil, Int.add_zero]
          rw [t5] at hz
          omega
      · have hnz : nz (twoE st.2 y) = true := by rw [nz_V t4]; simp [hz]
        rw [hnz]
        refine ⟨t2, ?_, ?_, ?_⟩
        · intro o ho
          rcases List.mem_append.1 ho with ho | ho
          · exact hfo o ho
          · rw [List.mem_singleton] at ho; subst ho
            exact ⟨t4, by omega⟩
        · rw [hsplit]
          show _ = (st.1 ++ [twoE st.2 y]).map V ++ double.growR _ (V (twoS st.2 y))
          rw [List.map_append, List.append_assoc]
          congr 1
          rw [t3]
          rw [t5] at hz
          rw [growR_cons]
          rw [if_neg hz]
          simp [t5]
        · have := hsum
          rw [htake, List.sum_append]
          show V (twoS st.2 y) + ((st.1 ++ [twoE st.2 y]).map V).sum = _
          rw [List.map_append, List.sum_append, t3]
          simp only [List.map_cons, List.map_nil, List.sum_cons, List.sum_nil, Int.add_zero]
          rw [t5]
          omega
    · intro j hj
      rcases Nat.lt_or_eq_of_le (show j ≤ k from by omega) with h | h
      · exact hok j h
      · subst h; exact t1

/-- GROWN: again an expansion, worth the sum -/
theorem grow_exp {B : Nat} {ys : List Nat} {x : Nat} (he : Exp B ys) (hx : FinW x) (hX : (V x).natAbs ≤ B) (hB : 1100 * B ≤ big) (hT : (V x + (ys.map V).sum).natAbs ≤ B) :
    GrowOk ys x ∧ Exp B (growW ys x) ∧ ((growW ys x).map V).sum = V x + (ys.map V).sum := by
  obtain ⟨hi, hok⟩ := grow_inv he hx hX hB ys.length (Nat.le_refl _)
  have hsplit := hi.split
  have hsum := hi.sum
  rw [List.drop_length] at hsplit
  rw [List.take_length] at hsum
  have hr : Ieee.Rising (double.growR (ys.map V) (V x)) := double.grow_rising Ieee.hp52 _ _ Ieee.V_fits (by intro y hy; obtain ⟨z, _, rfl⟩ := List.mem_map.1 hy; exact Ieee.V_fits) he.rising
  have hmap : (growW ys x).map V = double.growR (ys.map V) (V x) := by
    rw [hsplit]
    unfold growW
    rw [nz_V hi.fx]
    by_cases hz : V (growSt ys x ys.length).2 = 0
    · simp [hz, Ieee.Format.growR]
    · simp [hz, Ieee.Format.growR]
  have s1 := rising_sum (rising_left (hsplit ▸ hr)) (Y := 11 * B / 9007199254740992) (by
    intro a ha
    obtain ⟨o, ho, rfl⟩ := List.mem_map.1 ha
    have := (hi.fo o ho).2
    omega)
  refine ⟨hok, ⟨?_, by rw [hmap]; exact hr, ?_⟩, by rw [hmap, double.grow_sum]⟩
  · intro y hy
    unfold growW at hy
    split at hy
    · rcases List.mem_append.1 hy with hy | hy
      · exact (hi.fo y hy).1
      · rw [List.mem_singleton] at hy; subst hy; exact hi.fx
    · exact (hi.fo y hy).1
  · intro y hy
    have hlast : (V (growSt ys x ys.length).2).natAbs ≤ 2 * B := by omega
    unfold growW at hy
    split at hy
    · rcases List.mem_append.1 hy with hy | hy
      · have := (hi.fo y hy).2; omega
      · rw [List.mem_singleton] at hy; subst hy; exact hlast
    · have := (hi.fo y hy).2; omega
end Go.Proofs.Ytlegkefonpiakaa
