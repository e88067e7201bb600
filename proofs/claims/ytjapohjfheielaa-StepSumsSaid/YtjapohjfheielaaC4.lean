/- Masses in memory: lists copied, rows of the call's own. Conditions: sizes within reach. -/
import Derived.Test.YtjapohjfheielaaC0
namespace Go.Proofs.Ytjapohjfheielaa
open Go.RowKit

theorem Try.info40 : (Try.prog.info? 40).map (fun i => (i.zero, i.size, i.bytes)) = some (some (.agg #[.int .i64 0, .int .i64 0, .int .i64 0, .int .i64 0, .int .i64 0, .int .i64 0, .int .i64 0]), 7, 56) := by kernel_rfl
def vals (n : Nat) (S : Nat → Int) : List Value := (List.range (n * 7)).map fun j => .int .i64 (S j)
theorem vals_length (n : Nat) (S : Nat → Int) : (vals n S).length = n * 7 := by simp [vals]
theorem vals_get {n : Nat} {S : Nat → Int} {j : Nat} (h : j < n * 7) : (vals n S)[j]? = some (.int .i64 (S j)) := by
  unfold vals; rw [List.getElem?_map, List.getElem?_range h]; rfl
theorem vals_one (n : Nat) (S : Nat → Int) : ∀ u ∈ vals n S, u.oneCell' = true := by
  intro u hu
  obtain ⟨b, _, rfl⟩ := List.mem_map.1 hu
  rfl

theorem wpList_append_srcM {w : World} {ops : Array Oper} {rest : List Oper} {o : Oper} {a : Act} {Q : Exit → Act → World → Prop} (hgd : o.guard = none) (s x : Operand)
    (ho : o.op = .call { callee := .builtin .append, args := #[s, x], argTypes := #[22, 22] })
    (base n0 : Nat) (v : Value) (xs : List Value) (hs : a.eval s = v) (hown : w.ownsRow base 40 7 v n0 xs)
    (src : Value) (n : Nat) (S : Nat → Int) (hx : a.eval x = src) (hsrc : MIn w src n S) (h63 : (n0 + n) * 56 ≤ 140737488355328) (hbase : base ≤ w.heap.size)
    (h : ∀ v' w', w'.ownsRow base 40 7 v' (n0 + n) (xs ++ vals n S) → w.grownBy w' v.ownBlock → (v'.ownBlock = v.ownBlock ∨ v'.ownBlock = some w.heap.size) → wpList Try.prog ops Q rest (a.put o.dst v') w') :
    wpList Try.prog ops Q (o :: rest) a w := by
  obtain ⟨i0, hi, hz0, hz1, hz2⟩ := info_parts Try.info40
  rcases hsrc with ⟨rfl, rfl⟩ | ⟨ad, cap, rfl, hl⟩
  · refine wpList_append_own_none hgd s x 22 ho base 40 i0 7 Try.underlying22 hi v n0 xs hs hown hx ?_
    exact h v w (by simpa [vals] using hown) ⟨rfl, rfl, rfl, Nat.le_refl _, fun _ _ _ => rfl⟩ (Or.inl rfl)
  · refine wpList_append_own_at w hgd s x 22 ho base 40 i0 _ 7 56 Try.underlying22 hi hz0 hz1 hz2 rfl (by decide) v n0 xs hs hown ad n cap (vals n S) hx (by simp [vals]) ?_ (vals_one n S) (by unfold maxLen; omega) (by omega) hbase ?_
    · intro j u hj
      have hjl : j < n * 7 := by
        rcases Nat.lt_or_ge j (n * 7) with h' | h'
        · exact h'
        · rw [List.getElem?_eq_none (by rw [vals_length]; exact h')] at hj; cases hj
      obtain ⟨g, o', rfl, hl2⟩ := hl (by omega)
      rw [vals_get hjl] at hj
      cases hj
      rw [← hl2 j hjl]
      unfold Addr.add
      by_cases h0 : j = 0
      · subst h0; simp
      · simp [h0]
    · intro v' w' h1 h2 _ h4
      exact h v' w' h1 h2 h4
theorem own_empty (w : World) : (w.alloc (.cells #[] 40)).ownsRow w.heap.size 40 7 (.slice (some ⟨w.heap.size, 0, none⟩) 0 0) 0 [] :=
  ⟨rfl, Or.inr ⟨w.heap.size, 0, #[], rfl, Nat.le_refl _, heap_alloc_new w _, Nat.le_refl _, by unfold maxLen; omega, rfl, rfl⟩⟩

/-- a row of the call's own, as a block -/
theorem own_of_row {w : World} {base n : Nat} {v : Value} {S : Nat → Int} (h : w.ownsRow base 40 7 v n (vals n S)) (hb : ∃ k, v.ownBlock = some k) :
    ∃ g cap, v = .slice (some ⟨g, 0, none⟩) n cap ∧ base ≤ g ∧ Own w g n cap S ∧ n ≤ cap ∧ cap ≤ maxLen := by
  obtain ⟨_, h2⟩ := h
  rcases h2 with ⟨rfl, _⟩ | ⟨g, cap, cur, rfl, hg, hh, hn, hm, hs, ht⟩
  · obtain ⟨k, hk⟩ := hb; cases hk
  · refine ⟨g, cap, rfl, hg, ⟨cur, hh, fun j hj => ?_, hs⟩, hn, hm⟩
    have h3 := vals_get (S := S) hj
    rw [← ht, List.getElem?_take, if_pos hj] at h3
    simpa using h3
theorem row_of_own {w : World} {base g n cap : Nat} {S : Nat → Int} (h : Own w g n cap S) (hg : base ≤ g) (hn : n ≤ cap) (hm : cap ≤ maxLen) : w.ownsRow base 40 7 (.slice (some ⟨g, 0, none⟩) n cap) n (vals n S) := by
  obtain ⟨cur, h1, h2, h3⟩ := h
  refine ⟨vals_length n S, Or.inr ⟨g, cap, cur, rfl, hg, h1, hn, hm, h3, ?_⟩⟩
  apply List.ext_getElem?
  intro j
  rw [List.getElem?_take]
  by_cases hj : j < n * 7
  · rw [if_pos hj, vals_get hj, ← h2 j hj]; simp
  · rw [if_neg hj, List.getElem?_eq_none (by rw [vals_length]; omega)]
end Go.Proofs.Ytjapohjfheielaa
