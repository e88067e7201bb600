/- Walks: the reference's sum as two and what is fit; lists appended whole. Conditions: as each says. -/
import Derived.Test.YtlegkefonpiakaaV1
import Derived.Laws.AppendOwnNone
import Derived.OwnWalk
namespace Go.Proofs.Ytlegkefonpiakaa
open Go.RowKit

/-! ### the reference -/
theorem refFit_any (x : Nat) (w : World) : Calls Try.prog 10 #[.float .f64 x] w fun e w' => e = .returned (.bool (fitB x)) ∧ w = w' := by
  have h := refFit_core rg andNot_top (fun a c => decide (c ≤ (a : Int))) (fun _ _ => rfl) (fun a c => decide ((a : Int) ≤ c)) (fun _ _ => rfl) (fun a c => ((a : Int) == c)) (fun _ _ => rfl) x w
  have e : refFitRaw rg (fun a c => decide (c ≤ (a : Int))) (fun a c => decide ((a : Int) ≤ c)) (fun a c => ((a : Int) == c)) x = fitB x := by
    rw [fit_spec, Bool.eq_iff_iff]
    unfold refFitRaw
    simp only [Bool.or_eq_true, Bool.and_eq_true, decide_eq_true_eq, beq_iff_eq]
    omega
  rw [e] at h
  exact h

theorem fit2_any (x y : Nat) (w : World) : Calls Try.prog 24 #[.float .f64 x, .float .f64 y] w fun e w' => e = .returned (.bool (fitB x && fitB y)) ∧ w = w' := by
  have hx := refFit_any x
  have hy := refFit_any y
  cases h1 : fitB x
  · rw [h1] at hx
    have ha : (false && fitB y) = false := rfl
    rw [ha]
    clear ha h1 hy
    go_enter Try.func24, Try.ntmps24
    go_wp2_with (first | (go_at_call 10; refine (hx _).mono ?_; rintro e w' ⟨rfl, rfl⟩))
    go_ret
    exact ⟨rfl, rfl⟩
  · rw [h1] at hx
    have ha : (true && fitB y) = fitB y := rfl
    rw [ha]
    clear ha h1
    generalize fitB y = c at *
    go_enter Try.func24, Try.ntmps24
    go_wp2_with fail
    refine (hx _).mono ?_
    rintro e w' ⟨rfl, rfl⟩
    go_wp2_with fail
    refine (hy _).mono ?_
    rintro e w' ⟨rfl, rfl⟩
    go_wp2
    go_ret
    exact ⟨rfl, rfl⟩

theorem add_any (a b : Nat) (h : TwoOk a b) (w : World) :
    Calls Try.prog 25 #[.float .f64 a, .float .f64 b] w fun e w' => e = .returned (.tuple #[.float .f64 (twoS a b), .float .f64 (twoE a b)]) ∧ w = w' := by
  have r1 := run_fv h.h1
  have r2 := run_fv h.h2
  have r3 := run_fv h.h3
  have r4 := run_fv h.h4
  have r5 := run_fv h.h5
  have r6 := run_fv h.h6
  unfold twoE
  unfold twoC twoS at *
  clear h
  generalize fv .add a b = s at *
  generalize fv .sub s a = c at *
  generalize fv .sub s c = d at *
  generalize fv .sub a d = a' at *
  generalize fv .sub b c = b' at *
  generalize fv .add a' b' = e' at *
  go_enter Try.func25, Try.ntmps25
  go_wp2
  go_ret2
  exact ⟨rfl, rfl⟩

theorem sum_fit (a b : Nat) (h : TwoOk a b) (hf : (fitB a && fitB b) = true) (w : World) :
    Calls Try.prog 9 #[.float .f64 a, .float .f64 b] w fun e w' => e = .returned (.tuple #[.float .f64 (twoS a b), .float .f64 (twoE a b), .int .i64 0]) ∧ w = w' := by
  have h2 := fit2_any a b
  have h3 := add_any a b h
  rw [hf] at h2
  clear hf h
  generalize twoS a b = s at *
  generalize twoE a b = r at *
  go_enter Try.func9, Try.ntmps9
  go_wp2_with fail
  refine (h2 _).mono ?_
  rintro e w' ⟨rfl, rfl⟩
  go_wp2_with fail
  refine (h3 _).mono ?_
  rintro e w' ⟨rfl, rfl⟩
  go_wp2
  go_ret3
  exact ⟨rfl, rfl⟩
theorem sum_unfit (a b : Nat) (hf : (fitB a && fitB b) = false) (w : World) :
    Calls Try.prog 9 #[.float .f64 a, .float .f64 b] w fun e w' => e = .returned (.tuple #[.float .f64 0, .float .f64 0, .int .i64 3]) ∧ w = w' := by
  have h2 := fit2_any a b
  rw [hf] at h2
  clear hf
  go_enter Try.func9, Try.ntmps9
  go_wp2_with fail
  refine (h2 _).mono ?_
  rintro e w' ⟨rfl, rfl⟩
  go_wp2
  go_ret3
  exact ⟨rfl, rfl⟩

/-! ### lists appended whole -/
/-- a list that came in: nil, or over its memory below B (an empty one: at whatever address) -/
def Came (w : World) (B : Nat) (v : Value) (l : List Nat) : Prop := (v = .slice none 0 0 ∧ l = []) ∨ ∃ a cap, v = .slice (some a) l.length cap ∧ (l ≠ [] → a.spot = none ∧ a.block < B ∧ Lies w a.block a.off l)
theorem Came.below {w wr : World} {v : Value} {B : Nat} {l : List Nat} (h : Came w B v l) (hb : Below B w wr) : Came wr B v l := by
  rcases h with h | ⟨a, cap, h1, h2⟩
  · exact Or.inl h
  · exact Or.inr ⟨a, cap, h1, fun h => ⟨(h2 h).1, (h2 h).2.1, (h2 h).2.2.below hb (h2 h).2.1⟩⟩
theorem Came.form {w : World} {v : Value} {B : Nat} {l : List Nat} (h : Came w B v l) : ∃ A cap, v = .slice A l.length cap := by
  rcases h with ⟨rfl, rfl⟩ | ⟨a, cap, rfl, _⟩
  · exact ⟨none, 0, rfl⟩
  · exact ⟨_, cap, rfl⟩

theorem came_own {w : World} {base n : Nat} {v : Value} {l : List Nat} (h : w.ownsRow base 23 1 v n (flts l)) : LiesV w w.heap.size v l ∧ n = l.length := by
  have hn : n = l.length := by have := h.1; simp [flts] at this; omega
  subst hn
  refine ⟨?_, rfl⟩
  rcases h.2 with ⟨hv, h0⟩ | ⟨g, cap, cur, hv, _, hg, _⟩
  · subst hv
    have : l = [] := List.eq_nil_of_length_eq_zero h0
    subst this
    exact ⟨none, 0, rfl, Or.inl ⟨rfl, rfl⟩⟩
  · subst hv
    refine ⟨_, cap, rfl, Or.inr ⟨g, 0, rfl, ?_, (lies_of_owns h).1⟩⟩
    rcases Nat.lt_or_ge g w.heap.size with h' | h'
    · exact h'
    · rw [Array.getElem?_eq_none h'] at hg; cases hg

theorem wpList_append_src {w : World} {ops : Array Oper} {rest : List Oper} {o : Oper} {a : Act} {Q : Exit → Act → World → Prop} (hgd : o.guard = none) (s x : Operand)
    (ho : o.op = .call { callee := .builtin .append, args := #[s, x], argTypes := #[22, 22] })
    (base n : Nat) (v : Value) (xs : List Value) (hs : a.eval s = v) (hown : w.ownsRow base 23 1 v n xs)
    (B : Nat) (src : Value) (l : List Nat) (hx : a.eval x = src) (hsrc : Came w B src l) (h63 : n + l.length ≤ 17592186044415) (hbase : base ≤ w.heap.size)
    (h : ∀ v' w', w'.ownsRow base 23 1 v' (n + l.length) (xs ++ flts l) → w.grownBy w' v.ownBlock → (v'.ownBlock = v.ownBlock ∨ v'.ownBlock = some w.heap.size) → wpList Try.prog ops Q rest (a.put o.dst v') w') :
    wpList Try.prog ops Q (o :: rest) a w := by
  obtain ⟨i0, hi, hz0, hz1, hz2⟩ := info_parts Try.info23
  rcases hsrc with ⟨rfl, rfl⟩ | ⟨ad, cap, rfl, hl⟩
  · refine wpList_append_own_none hgd s x 22 ho base 23 i0 1 Try.underlying22 hi v n xs hs hown hx ?_
    exact h v w (by simpa [flts] using hown) ⟨rfl, rfl, rfl, Nat.le_refl _, fun _ _ _ => rfl⟩ (Or.inl rfl)
  · refine wpList_append_own_at w hgd s x 22 ho base 23 i0 (.float .f64 0) 1 8 Try.underlying22 hi hz0 hz1 hz2 rfl (by decide) v n xs hs hown ad l.length cap (flts l) hx (by rw [flts_length, Nat.mul_one]) ?_ (flts_one l) (by unfold maxLen; omega) (by omega) hbase ?_
    · intro j u hj
      have hjl : j < l.length := by
        rcases Nat.lt_or_ge j l.length with h' | h'
        · exact h'
        · rw [List.getElem?_eq_none (by rw [flts_length]; exact h')] at hj; cases hj
      obtain ⟨hsp, _, hl2⟩ := hl (by intro e; rw [e] at hjl; simp at hjl)
      obtain ⟨b, off, spot⟩ := ad
      simp only at hsp hl2
      subst hsp
      have hc := hl2 j hjl
      have hu : u = .float .f64 (l.getD j 0) := by
        unfold flts at hj
        rw [List.getElem?_map, List.getElem?_eq_getElem hjl] at hj
        simp [List.getD, List.getElem?_eq_getElem hjl] at hj ⊢
        exact hj.symm
      rw [hu, ← hc]
      unfold Addr.add
      by_cases h0 : j = 0
      · subst h0; simp
      · simp [h0]
    · intro v' w' h1 h2 _ h4
      exact h v' w' h1 h2 h4

/-- an empty list, made -/
theorem own_empty (w : World) (base : Nat) (h : base ≤ w.heap.size) : (w.alloc (.cells #[] 23)).ownsRow base 23 1 (.slice (some ⟨w.heap.size, 0, none⟩) 0 0) 0 [] :=
  ⟨rfl, Or.inr ⟨w.heap.size, 0, #[], rfl, h, heap_alloc_new w _, Nat.le_refl _, by unfold maxLen; omega, rfl, rfl⟩⟩
theorem cell_two_new (w : World) (x y : Value) (t : TypeId) : ∀ j u, [x, y][j]? = some u → (w.alloc (.cells #[x, y] t)).cell? ((⟨w.heap.size, 0, none⟩ : Addr).add j) = some u := by
  intro j u hj
  have h := heap_alloc_new w (.cells #[x, y] t)
  match j, hj with
  | 0, hj =>
    simp at hj; subst hj
    show World.cell? _ ⟨w.heap.size, 0, none⟩ = _
    rw [cell_of_row _ _ _ _ _ (0, 0) h]; rfl
  | 1, hj =>
    simp at hj; subst hj
    show World.cell? _ ⟨w.heap.size, 0 + 1, none⟩ = _
    rw [cell_of_row _ _ _ _ _ (0, 0) h]; rfl

theorem exact_v (v : Value) (l : List Nat) (w : World) (hm : l.length ≤ 9223372036854775807) (hw : Words l) (hv : LiesV w w.heap.size v l) :
    Calls Try.prog 11 #[v] w fun e w' => e = .returned (.tuple #[.float .f64 (exactR fitB l), .int .i64 (checkL fitB l)]) ∧ Below w.heap.size w w' := by
  obtain ⟨A, cap, rfl, h⟩ := hv
  exact exact_any fitB fit_any A cap l w hm ⟨A, cap, rfl, h⟩ (fun hc => (exact_law hw hc).1)
end Go.Proofs.Ytlegkefonpiakaa
