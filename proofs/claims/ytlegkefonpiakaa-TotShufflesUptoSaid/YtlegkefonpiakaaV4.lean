/- Walks: dot and sign of lists that lie in memory; a list negated. Conditions: none. -/
import Derived.Test.YtlegkefonpiakaaV2
import Derived.Test.YtlegkefonpiakaaU5
namespace Go.Proofs.Ytlegkefonpiakaa
open Go.RowKit

theorem dot_v (v u : Value) (a b : List Nat) (w : World) (hma : a.length ≤ 9223372036854775807) (hmb : b.length ≤ 9223372036854775807) (wa : Words a) (wb : Words b) (ha : LiesV w w.heap.size v a) (hb : LiesV w w.heap.size u b) :
    Calls Try.prog 14 #[v, u] w fun e w' => e = .returned (.tuple #[.float .f64 (dotR fitB a b), .int .i64 (dotErr fitB a b)]) ∧ Below w.heap.size w w' := by
  obtain ⟨A, ca, rfl, ha⟩ := ha
  obtain ⟨B, cb, rfl, hb⟩ := hb
  exact Dot_any fitB fit_any A B ca cb a b w hma hmb ⟨A, ca, rfl, ha⟩ ⟨B, cb, rfl, hb⟩ (fun h => (dot_law wa wb h).1)
theorem sign_v (v u : Value) (a b : List Nat) (w : World) (hma : a.length ≤ 9223372036854775807) (hmb : b.length ≤ 9223372036854775807) (wa : Words a) (wb : Words b) (ha : LiesV w w.heap.size v a) (hb : LiesV w w.heap.size u b) :
    Calls Try.prog 16 #[v, u] w fun e w' => e = .returned (.tuple #[.int .i64 (signR fitB a b), .int .i64 (dotErr fitB a b)]) ∧ Below w.heap.size w w' := by
  obtain ⟨A, ca, rfl, ha⟩ := ha
  obtain ⟨B, cb, rfl, hb⟩ := hb
  exact Sign_any fitB fit_any A B ca cb a b w hma hmb ⟨A, ca, rfl, ha⟩ ⟨B, cb, rfl, hb⟩ (fun h => (dot_law wa wb h).1)

theorem Came.cell {w : World} {B : Nat} {A : Option Addr} {cap k : Nat} {l : List Nat} (h : Came w B (.slice A l.length cap) l) (hk : k < l.length) : ∃ b off, A = some ⟨b, off, none⟩ ∧ w.cell? ⟨b, off + k, none⟩ = some (.float .f64 (l.getD k 0)) := by
  rcases h with ⟨_, h⟩ | ⟨a, cap', hv, h⟩
  · rw [h] at hk; exact absurd hk (by simp)
  · cases hv
    obtain ⟨hs, _, hl⟩ := h (by intro e; rw [e] at hk; simp at hk)
    obtain ⟨b, off, spot⟩ := a
    simp only at hs hl
    subst hs
    exact ⟨b, off, rfl, hl k hk⟩

theorem LiesV.mono {w : World} {v : Value} {B B' : Nat} {l : List Nat} (h : LiesV w B v l) (hB : B ≤ B') : LiesV w B' v l := by
  obtain ⟨A, cap, rfl, h⟩ := h
  refine ⟨A, cap, rfl, ?_⟩
  rcases h with h | ⟨b, off, h1, h2, h3⟩
  · exact Or.inl h
  · exact Or.inr ⟨b, off, h1, Nat.lt_of_lt_of_le h2 hB, h3⟩

/-- a row that stands while others grow -/
theorem own_stays {w w' : World} {base n B : Nat} {v : Value} {xs : List Value} (h : w.ownsRow base 23 1 v n xs) (hb : Below B w w') (hB : ∀ k, v.ownBlock = some k → k < B) : w'.ownsRow base 23 1 v n xs := by
  refine ⟨h.1, ?_⟩
  rcases h.2 with h0 | ⟨g, cap, cur, hv, h1, h2, h3⟩
  · exact Or.inl h0
  · refine Or.inr ⟨g, cap, cur, hv, h1, ?_, h3⟩
    rw [hb.block g (hB g (by rw [hv]; rfl))]
    exact h2

theorem neg_take {l : List Nat} {k : Nat} (h : k < l.length) : flts ((l.map negW).take k) ++ [.float .f64 (negW (l.getD k 0))] = flts ((l.map negW).take (k + 1)) := by
  rw [← List.map_take, ← List.map_take]
  have e : l.getD k 0 = l[k] := by simp [List.getD, List.getElem?_eq_getElem h]
  rw [List.take_succ_eq_append_getElem h, e]
  unfold flts
  rw [List.map_append, List.map_append]; rfl
theorem same_self (x : Nat) : sameW x x = true := by unfold sameW; simp
end Go.Proofs.Ytlegkefonpiakaa
