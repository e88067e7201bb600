/- Plain law: expansions of whole lists, and their rounding. Conditions: finite words, far below overflow. -/
import Derived.Test.YtlegkefonpiakaaU1
namespace Go.Proofs.Ytlegkefonpiakaa
open Ieee (FinW V dR big double wordOf)

attribute [local irreducible] Ieee.V Ieee.Format.rnd fv Ieee.big

theorem exp_nil (B : Nat) : Exp B [] := ⟨(fun _ hy => nomatch hy), trivial, (fun _ hy => nomatch hy)⟩

/-- a whole list, number by number -/
theorem exp_fold {B C : Nat} (hB : 1100 * B ≤ big) : ∀ (l ys : List Nat) (m : Nat), Exp B ys → (ys.map V).sum.natAbs ≤ m → m + l.length * C ≤ B → (∀ x ∈ l, FinW x ∧ (V x).natAbs ≤ C) →
    Exp B (l.foldl growW ys) ∧ ((l.foldl growW ys).map V).sum = (ys.map V).sum + (l.map V).sum ∧ ((l.foldl growW ys).map V).sum.natAbs ≤ m + l.length * C := by
  intro l
  induction l with
  | nil =>
    intro ys m h1 h2 _ _
    refine ⟨h1, by simp, by simpa using h2⟩
  | cons x l ih =>
    intro ys m h1 h2 h3 h4
    obtain ⟨fx, cx⟩ := h4 x (List.mem_cons_self ..)
    rw [List.length_cons, Nat.add_mul, Nat.one_mul] at h3
    have hT : (V x + (ys.map V).sum).natAbs ≤ C + m := Nat.le_trans (Int.natAbs_add_le _ _) (Nat.add_le_add cx h2)
    obtain ⟨_, g2, g3⟩ := grow_exp h1 fx (by omega) hB (by omega)
    obtain ⟨r1, r2, r3⟩ := ih (growW ys x) (C + m) g2 (by rw [g3]; exact hT) (by omega) (fun y hy => h4 y (List.mem_cons_of_mem _ hy))
    rw [List.foldl_cons]
    refine ⟨r1, ?_, ?_⟩
    · rw [r2, g3, List.map_cons, List.sum_cons]; omega
    · rw [List.length_cons, Nat.add_mul, Nat.one_mul]; omega

theorem exp_fold_ok {B C : Nat} (hB : 1100 * B ≤ big) (l : List Nat) (x : Nat) (h3 : (l.length + 1) * C ≤ B) (h4 : ∀ y ∈ l, FinW y ∧ (V y).natAbs ≤ C) (hx : FinW x ∧ (V x).natAbs ≤ C) : GrowOk (l.foldl growW []) x := by
  rw [Nat.add_mul, Nat.one_mul] at h3
  obtain ⟨r1, r2, r3⟩ := exp_fold hB l [] 0 (exp_nil B) (by simp) (by omega) h4
  have := Int.natAbs_add_le (V x) ((l.foldl growW []).map V).sum
  exact (grow_exp r1 hx.1 (by omega) hB (by omega)).1

/-! ### rounded -/
def revV (ys : List Nat) (c : Nat) : List Int := ((ys.take c).map V).reverse
theorem revV_succ {ys : List Nat} {c : Nat} (h : c < ys.length) : revV ys (c + 1) = V (ys.getD c 0) :: revV ys c := by
  unfold revV
  rw [List.take_succ_eq_append_getElem h, List.map_append, List.reverse_append, List.getD_eq_getElem?_getD, List.getElem?_eq_getElem h]; rfl
theorem roundL_cons (s y : Int) (ys : List Int) : double.roundL s (y :: ys) = if s + y - dR (s + y) = 0 then double.roundL (dR (s + y)) ys else (dR (s + y), s + y - dR (s + y), ys) := rfl

def Img (ys : List Nat) (r : Nat × Nat × Nat) (q : Int × Int × List Int) : Prop := q = (V r.1, V r.2.1, revV ys r.2.2)

theorem round_rel {B : Nat} {ys : List Nat} (he : Exp B ys) (hB : 1100 * B ≤ big) : ∀ (c s low : Nat), c ≤ ys.length → FinW s → FinW low → V low = 0 → V s = ((ys.drop c).map V).sum →
    RoundOk ys c s low ∧ Img ys (roundW ys c s low) (double.roundL (V s) (revV ys c)) ∧ FinW (roundW ys c s low).1 ∧ FinW (roundW ys c s low).2.1 ∧ (V (roundW ys c s low).1).natAbs ≤ 20 * B ∧ (V (roundW ys c s low).2.1).natAbs ≤ 40 * B ∧ (roundW ys c s low).2.2 ≤ c := by
  intro c
  induction c with
  | zero =>
    intro s low _ fs fl v0 hs
    have hb := rising_sum he.rising (Y := 2 * B) (by intro a ha; obtain ⟨o, ho, rfl⟩ := List.mem_map.1 ha; exact he.small o ho)
    rw [List.drop_zero] at hs
    rw [← hs] at hb
    refine ⟨trivial, ?_, fs, fl, by show (V s).natAbs ≤ _; omega, by show (V low).natAbs ≤ _; omega, Nat.le_refl _⟩
    show double.roundL (V s) [] = (V s, V low, [])
    rw [v0]; rfl
  | succ c ih =>
    intro s low hc fs fl v0 hs
    have hz : zb low = true := by rw [zb_V fl, v0]; rfl
    have hy := he.fin _ (getD_mem (show c < ys.length from by omega))
    have hys := he.small _ (getD_mem (show c < ys.length from by omega))
    have hrise : Ieee.Rising ((ys.drop (c + 1)).map V) := by
      have := he.rising
      rw [← List.take_append_drop (c + 1) ys, List.map_append] at this
      exact rising_right this
    have hb := rising_sum hrise (Y := 2 * B) (by intro a ha; obtain ⟨o, ho, rfl⟩ := List.mem_map.1 ha; exact he.small o (List.mem_of_mem_drop ho))
    rw [← hs] at hb
    have hdrop : ys.drop c = ys.getD c 0 :: ys.drop (c + 1) := by
      rw [List.drop_eq_getElem_cons (show c < ys.length from by omega)]
      congr 1
      rw [List.getD_eq_getElem?_getD, List.getElem?_eq_getElem (show c < ys.length from by omega)]; rfl
    have hrev := revV_succ (show c < ys.length from by omega)
    have ihc := fun s low => ih s low (by omega)
    clear ih hrise
    rw [hrev, roundL_cons]
    rw [hdrop] at ihc
    clear hrev hdrop
    have eW : roundW ys (c + 1) s low = roundW ys c (twoS s (ys.getD c 0)) (twoE s (ys.getD c 0)) := by
      conv => lhs; unfold roundW
      rw [hz]; rfl
    have eO : RoundOk ys (c + 1) s low = (zb low = true → TwoOk s (ys.getD c 0) ∧ RoundOk ys c (twoS s (ys.getD c 0)) (twoE s (ys.getD c 0))) := rfl
    rw [eW, eO]
    clear eW eO hz
    generalize ys.getD c 0 = y at *
    obtain ⟨t1, t2, t3, t4, t5⟩ := two_V fs hy (M := 4 * B) (by omega) (by omega) (by omega)
    have hsum : (V s + V y).natAbs ≤ 6 * B := by clear t3 t5 ihc; omega
    have hdr := dR_le (V s + V y)
    by_cases h0 : V s + V y - dR (V s + V y) = 0
    · rw [if_pos h0]
      obtain ⟨i1, i2, i3, i4, i5, i6, i7⟩ := ihc (twoS s y) (twoE s y) t2 t4 (by rw [t5, h0]) (by
        rw [t3, List.map_cons, List.sum_cons, ← hs]; omega)
      rw [t3] at i2
      exact ⟨fun _ => ⟨t1, i1⟩, i2, i3, i4, i5, i6, by omega⟩
    · rw [if_neg h0]
      have hzE : zb (twoE s y) = false := by rw [zb_V t4, t5, decide_eq_false h0]
      have eW : roundW ys c (twoS s y) (twoE s y) = (twoS s y, twoE s y, c) := by
        cases c with
        | zero => rfl
        | succ c => unfold roundW; rw [hzE]; rfl
      have eO : RoundOk ys c (twoS s y) (twoE s y) := by
        cases c with
        | zero => trivial
        | succ c => intro h; rw [hzE] at h; cases h
      rw [eW]
      refine ⟨fun _ => ⟨t1, eO⟩, ?_, t2, t4, ?_, ?_, by show c ≤ _; omega⟩
      · show _ = (V (twoS s y), V (twoE s y), revV ys c)
        rw [t3, t5]
      · show (V (twoS s y)).natAbs ≤ _
        rw [t3]; clear t5 t3; omega
      · show (V (twoE s y)).natAbs ≤ _
        rw [t5]; clear t5 t3; omega

theorem fin_two : FinW 4611686018427387904 := by refine ⟨by omega, ?_⟩; decide
theorem V_two : V 4611686018427387904 = 2 * 2 ^ Ieee.deepD := by unfold V; decide +kernel
theorem neg_zero_word : double.neg 0 = false := by decide

/-- with +0 added, a word is the one of its worth -/
theorem add_zero_word {x : Nat} (hx : FinW x) (hb : (V x).natAbs ≤ big) : FOk .add x 0 ∧ fv .add x 0 = wordOf (V x) := by
  have h := Ieee.add_V hx fin_zero (by rw [V_zero, Int.add_zero]; exact hb)
  rw [V_zero, Int.add_zero, neg_zero_word, Bool.and_false] at h
  have h2 : fv .add x 0 = wordOf (V x) := by
    rw [fv_add, h]
    show double.word _ _ = double.word _ _
    by_cases h0 : V x = 0
    · rw [if_pos h0, h0]; rfl
    · rw [if_neg h0]
  refine ⟨?_, h2⟩
  rw [FOk_add, h]; rfl

theorem twice {x : Nat} (hx : FinW x) (hb : 2 * (V x).natAbs ≤ big) : FOk .mul 4611686018427387904 x ∧ FinW (fv .mul 4611686018427387904 x) ∧ V (fv .mul 4611686018427387904 x) = 2 * V x := by
  obtain ⟨o, f, v⟩ := w_mul fin_two hx (M := 2 * V x) (by rw [V_two]; grind) (by rw [Int.natAbs_mul]; exact hb)
  refine ⟨o, f, ?_⟩
  rw [v]
  have := double.rnd_scale Ieee.hp52 (V x) 1
  rw [double.rnd_of_fits Ieee.hp52 Ieee.V_fits] at this
  have e : V x * 2 ^ 1 = 2 * V x := by omega
  rw [e] at this
  exact this

/-- ROUNDED: the sum's word -/
theorem rounded_law {B : Nat} {ys : List Nat} (he : Exp B ys) (hB : 1100 * B ≤ big) : RoundedOk ys ∧ roundedW ys = wordOf (dR (ys.map V).sum) := by
  by_cases hl : ys.length = 0
  · refine ⟨fun h => by omega, ?_⟩
    have : ys = [] := List.eq_nil_of_length_eq_zero hl
    subst this
    unfold roundedW
    rw [if_pos hl]
    decide +kernel
  · obtain ⟨n, hn⟩ : ∃ n, ys.length = n + 1 := ⟨ys.length - 1, by omega⟩
    have hlt : n < ys.length := by omega
    have hmem := getD_mem hlt
    have hdrop : ys.drop n = [ys.getD n 0] := by
      rw [List.drop_eq_getElem_cons hlt, List.drop_of_length_le (by omega), List.getD_eq_getElem?_getD, List.getElem?_eq_getElem hlt]; rfl
    have hsplit : ys.map V = (ys.take n).map V ++ [V (ys.getD n 0)] := by
      conv => lhs; rw [← List.take_append_drop n ys, List.map_append, hdrop]
      rfl
    have hR := he.rising
    rw [hsplit] at hR
    have hb := rising_sum he.rising (Y := 2 * B) (by intro a ha; obtain ⟨o, ho, rfl⟩ := List.mem_map.1 ha; exact he.small o ho)
    obtain ⟨r1, r2, r3, r4, r5, r6, r7⟩ := round_rel he hB n (ys.getD n 0) 0 (by omega) (he.fin _ hmem) fin_zero V_zero (by rw [hdrop]; simp)
    have hspec := double.round_spec Ieee.hp52 (revV ys n) (V (ys.getD n 0)) Ieee.V_fits (Ieee.falling_reverse _ (rising_left hR))
      (fun y hy => rising_above hR y (List.mem_reverse.1 hy) _ (List.mem_singleton.2 rfl))
    have hsum : V (ys.getD n 0) + (revV ys n).sum = (ys.map V).sum := by
      rw [hsplit]; unfold revV; rw [List.sum_reverse, List.sum_append]; simp [Int.add_comm]
    rw [hsum, r2] at hspec
    have e1 : ys.length - 1 = n := by omega
    unfold RoundedOk roundedW
    rw [e1, if_neg hl]
    generalize roundW ys n (ys.getD n 0) 0 = r at *
    clear hsum hsplit hdrop hmem r2 hR hl e1
    have main : FinW (tieS ys r) ∧ V (tieS ys r) = dR (ys.map V).sum ∧ (tieB ys r = true → FOk .mul 4611686018427387904 r.2.1 ∧ FOk .add r.1 (fv .mul 4611686018427387904 r.2.1) ∧ FOk .sub (tieT r) r.1) := by
      obtain ⟨m1, m2, m3⟩ := twice r4 (by omega)
      have m4 : (V (fv .mul 4611686018427387904 r.2.1)).natAbs ≤ 80 * B := by rw [m3, Int.natAbs_mul]; show 2 * _ ≤ _; omega
      obtain ⟨a1, a2, a3⟩ := b_add ⟨r3, r5⟩ ⟨m2, m4⟩ (by omega)
      obtain ⟨s1, s2, s3⟩ := b_sub a2 ⟨r3, r5⟩ (by omega)
      have hT : tieT r = fv .add r.1 (fv .mul 4611686018427387904 r.2.1) := rfl
      rw [← hT] at a2 a3 s1 s2 s3
      rw [m3] at a3
      rw [a3] at s3
      have hcmp : (o64 (fv .sub (tieT r) r.1) (fv .mul 4611686018427387904 r.2.1) == some .eq) = decide (dR (dR (V r.1 + 2 * V r.2.1) - V r.1) = 2 * V r.2.1) := by
        rw [o64_V s2.1 m2, s3, m3]
        by_cases h : dR (dR (V r.1 + 2 * V r.2.1) - V r.1) = 2 * V r.2.1
        · rw [decide_eq_true h, cmp_eq.2 h]; rfl
        · rw [decide_eq_false h, beq_eq_false_iff_ne]; intro e; exact h (cmp_eq.1 (Option.some.inj e))
      have hB2 : tieB ys r = decide (V r.2.1 ≠ 0 ∧ revV ys r.2.2 ≠ [] ∧ decide (V r.2.1 < 0) = decide ((revV ys r.2.2).headD 0 < 0)) := by
        unfold tieB
        rw [nz_V r4, lt0_V r4]
        cases hc : r.2.2 with
        | zero =>
          have : revV ys 0 = [] := rfl
          rw [this]; simp
        | succ c =>
          rw [hc] at r7
          rw [revV_succ (show c < ys.length from by omega), Nat.add_sub_cancel, lt0_V (he.fin _ (getD_mem (show c < ys.length from by omega)))]
          rw [Bool.eq_iff_iff, decide_eq_true_iff, Bool.and_eq_true, Bool.and_eq_true, decide_eq_true_iff, decide_eq_true_iff, beq_iff_eq, List.headD_cons]
          exact ⟨fun h => ⟨h.1.1, by simp, h.2⟩, fun h => ⟨⟨h.1, Nat.succ_pos _⟩, h.2.2⟩⟩
      refine ⟨?_, ?_, fun _ => ⟨m1, a1, s1⟩⟩
      · unfold tieS
        split
        · split
          · exact a2.1
          · exact r3
        · exact r3
      · refine Eq.trans ?_ hspec
        unfold tieS Ieee.Format.roundE
        rw [hB2, hcmp]
        by_cases hc : V r.2.1 ≠ 0 ∧ revV ys r.2.2 ≠ [] ∧ decide (V r.2.1 < 0) = decide ((revV ys r.2.2).headD 0 < 0)
        · rw [decide_eq_true hc, if_pos rfl]
          show _ = if V r.2.1 ≠ 0 ∧ revV ys r.2.2 ≠ [] ∧ decide (V r.2.1 < 0) = decide ((revV ys r.2.2).headD 0 < 0) then _ else _
          rw [if_pos hc]
          by_cases hd : dR (dR (V r.1 + 2 * V r.2.1) - V r.1) = 2 * V r.2.1
          · rw [decide_eq_true hd, if_pos rfl, if_pos hd, a3]
          · rw [decide_eq_false hd, if_neg (by decide), if_neg hd]
        · rw [decide_eq_false hc, if_neg (by decide)]
          show _ = if V r.2.1 ≠ 0 ∧ revV ys r.2.2 ≠ [] ∧ decide (V r.2.1 < 0) = decide ((revV ys r.2.2).headD 0 < 0) then _ else _
          rw [if_neg hc]
    obtain ⟨f1, f2, f3⟩ := main
    have hd := dR_le (ys.map V).sum
    obtain ⟨z1, z2⟩ := add_zero_word f1 (by rw [f2]; omega)
    refine ⟨fun _ => ⟨r1, f3, z1⟩, ?_⟩
    rw [z2, f2]
end Go.Proofs.Ytlegkefonpiakaa
