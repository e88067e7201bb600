/- Masses in memory: seven cells each. Conditions: none. -/
import Derived.Test.YtjapohjfheielaaA3
import Derived.RegionTactic
import Derived.ChangeAlike
import Derived.Deep.QuietTactic
import Derived.BigQuiet
import Derived.OwnWalk
import Derived.IntWalk
import Derived.Laws.AppendOwnNone
namespace Go.Proofs.Ytjapohjfheielaa
open Go.RowKit

/-- a list of n masses that reads as S, cell by cell -/
def Lies (w : World) (g o n : Nat) (S : Nat → Int) : Prop := ∀ j, j < n * 7 → w.cell? ⟨g, o + j, none⟩ = some (.int .i64 (S j))
def MIn (w : World) (v : Value) (n : Nat) (S : Nat → Int) : Prop := (v = .slice none 0 0 ∧ n = 0) ∨ ∃ a cap, v = .slice (some a) n cap ∧ (0 < n → ∃ g o, a = ⟨g, o, none⟩ ∧ Lies w g o n S)
theorem MIn.form {w : World} {v : Value} {n : Nat} {S : Nat → Int} (h : MIn w v n S) : ∃ A cap, v = .slice A n cap := by
  rcases h with ⟨rfl, rfl⟩ | ⟨a, cap, h1, _⟩
  · exact ⟨_, _, rfl⟩
  · exact ⟨_, cap, h1⟩
theorem MIn.cell {w : World} {A : Option Addr} {n cap : Nat} {S : Nat → Int} (h : MIn w (.slice A n cap) n S) {i : Nat} (hi : i < n) : ∃ g o, A = some ⟨g, o, none⟩ ∧ Lies w g o n S := by
  rcases h with ⟨_, h2⟩ | ⟨a, cap', h1, h2⟩
  · omega
  · cases h1
    obtain ⟨g, o, h3, h4⟩ := h2 (by omega)
    exact ⟨g, o, by rw [h3], h4⟩
theorem Lies.lt {w : World} {g o n : Nat} {S : Nat → Int} (h : Lies w g o n S) (hn : 0 < n) : g < w.heap.size := World.block_lt_of_cell? w _ (h 0 (by omega))
theorem Lies.below {w w' : World} {g o n : Nat} {S : Nat → Int} (h : Lies w g o n S) (hb : Below w.heap.size w w') (hn : 0 < n) : Lies w' g o n S := fun j hj => by
  rw [hb.cell (p := ⟨g, o + j, none⟩) (h.lt hn)]; exact h j hj
theorem MIn.below {w w' : World} {v : Value} {n : Nat} {S : Nat → Int} (h : MIn w v n S) (hb : Below w.heap.size w w') : MIn w' v n S := by
  rcases h with h | ⟨a, cap, h1, h2⟩
  · exact Or.inl h
  · exact Or.inr ⟨a, cap, h1, fun hn => by obtain ⟨g, o, h3, h4⟩ := h2 hn; exact ⟨g, o, h3, h4.below hb hn⟩⟩
theorem MIn.drewN {w : World} {v : Value} {n : Nat} {S : Nat → Int} (h : MIn w v n S) (m : Nat) : MIn (w.drewN m) v n S := h
theorem MIn.congr {w : World} {v : Value} {n : Nat} {S T : Nat → Int} (h : MIn w v n S) (he : ∀ j, j < n * 7 → T j = S j) : MIn w v n T := by
  rcases h with h | ⟨a, cap, h1, h2⟩
  · exact Or.inl h
  · exact Or.inr ⟨a, cap, h1, fun hn => by obtain ⟨g, o, h3, h4⟩ := h2 hn; exact ⟨g, o, h3, fun j hj => by rw [he j hj]; exact h4 j hj⟩⟩

/-- a mass on the grid -/
def okX (x : Int) : Prop := -1099511627776 ≤ x ∧ x ≤ 1099511627776
def okP (p : Int) : Prop := -1125899906842624 ≤ p ∧ p ≤ 1125899906842624
def okM (S : Nat → Int) (i : Nat) : Prop := (1 ≤ S (i * 7) ∧ S (i * 7) ≤ 1048576) ∧ ∀ k, k < 3 → okX (S (i * 7 + 1 + k)) ∧ okP (S (i * 7 + 4 + k))
def okAll (n : Nat) (S : Nat → Int) : Prop := ∀ i, i < n → okM S i
open Classical in
noncomputable def chk (n : Nat) (S : Nat → Int) : Int := if 8 < n then 2 else if okAll n S then 0 else 140
theorem chk_zero {n : Nat} {S : Nat → Int} : chk n S = 0 ↔ n ≤ 8 ∧ okAll n S := by
  unfold chk
  by_cases h : 8 < n
  · rw [if_pos h]; constructor
    · intro h'; omega
    · intro h'; omega
  · rw [if_neg h]
    by_cases h2 : okAll n S
    · rw [if_pos h2]; exact ⟨fun _ => ⟨by omega, h2⟩, fun _ => rfl⟩
    · rw [if_neg h2]; constructor
      · intro h'; omega
      · intro h'; exact absurd h'.2 h2
theorem chk_bad {n : Nat} {S : Nat → Int} (h : n ≤ 8) {i : Nat} (hi : i < n) (hb : ¬ okM S i) : chk n S = 140 := by
  unfold chk
  rw [if_neg (by omega), if_neg (fun h2 => hb (h2 i hi))]
theorem chk_good {n : Nat} {S : Nat → Int} (h : n ≤ 8) (h2 : okAll n S) : chk n S = 0 := chk_zero.2 ⟨h, h2⟩
theorem chk_long {n : Nat} {S : Nat → Int} (h : 8 < n) : chk n S = 2 := by unfold chk; rw [if_pos h]

/-- one cell of a list of numbers turned; a list up to t -/
def upd (S : Nat → Int) (j : Nat) (v : Int) : Nat → Int := fun i => if i = j then v else S i
def mix (t : Nat) (A B : Nat → Int) : Nat → Int := fun j => if j < t then A j else B j
theorem upd_mix {A B : Nat → Int} {t : Nat} : upd (mix t A B) t (A t) = mix (t + 1) A B := by
  funext j
  unfold upd mix
  by_cases h : j = t
  · rw [if_pos h, if_pos (by omega), h]
  · rw [if_neg h]
    by_cases h2 : j < t
    · rw [if_pos h2, if_pos (by omega)]
    · rw [if_neg h2, if_neg (by omega)]
theorem mix_ge {A B : Nat → Int} {t j : Nat} (h : t ≤ j) : mix t A B j = B j := by unfold mix; rw [if_neg (by omega)]
theorem mix_lt {A B : Nat → Int} {t j : Nat} (h : j < t) : mix t A B j = A j := by unfold mix; rw [if_pos h]

/-- block g is the call's own, and holds n masses that read as S -/
def Own (w : World) (g n cap : Nat) (S : Nat → Int) : Prop := ∃ cur, w.heap[g]? = some (.cells cur 40 (0, 0)) ∧ (∀ j, j < n * 7 → cur[j]? = some (.int .i64 (S j))) ∧ cur.size = cap * 7
theorem Own.lt {w : World} {g n cap : Nat} {S : Nat → Int} (h : Own w g n cap S) : g < w.heap.size := by
  obtain ⟨cur, h1, _, _⟩ := h; exact (Array.getElem?_eq_some_iff.1 h1).1
theorem Own.lies {w : World} {g n cap : Nat} {S : Nat → Int} (h : Own w g n cap S) : Lies w g 0 n S := by
  obtain ⟨cur, h1, h2, h3⟩ := h
  intro j hj
  rw [Nat.zero_add, cell_of_row w g j cur 40 (0, 0) h1]; exact h2 j hj
theorem Own.free {w : World} {g n cap : Nat} {S : Nat → Int} (h : Own w g n cap S) (j : Nat) : w.frozen? ⟨g, j, none⟩ = false := by
  obtain ⟨cur, h1, _, _⟩ := h
  simp [World.frozen?, h1]
theorem Own.drewN {w : World} {g n cap : Nat} {S : Nat → Int} (h : Own w g n cap S) (m : Nat) : Own (w.drewN m) g n cap S := h
theorem Own.min {w : World} {g n cap c2 : Nat} {S : Nat → Int} (h : Own w g n cap S) : MIn w (.slice (some ⟨g, 0, none⟩) n c2) n S := Or.inr ⟨_, _, rfl, fun _ => ⟨g, 0, rfl, h.lies⟩⟩
theorem Own.congr {w : World} {g n cap : Nat} {S T : Nat → Int} (h : Own w g n cap S) (he : ∀ j, j < n * 7 → T j = S j) : Own w g n cap T := by
  obtain ⟨cur, h1, h2, h3⟩ := h
  exact ⟨cur, h1, fun j hj => by rw [he j hj]; exact h2 j hj, h3⟩
theorem Own.set {w : World} {g n cap : Nat} {S : Nat → Int} (h : Own w g n cap S) (j : Nat) (v : Int) : Own (w.setCell ⟨g, j, none⟩ (.int .i64 v)) g n cap (upd S j v) := by
  obtain ⟨cur, h1, h2, h3⟩ := h
  refine ⟨cur.setIfInBounds j (.int .i64 v), ?_, ?_, by rw [Array.size_setIfInBounds]; exact h3⟩
  · simp only [World.setCell, Array.getElem?_modify, if_true, h1]; rfl
  · intro i hi
    unfold upd
    by_cases h : i = j
    · subst h
      rw [if_pos rfl, Array.getElem?_setIfInBounds_self_of_lt]
      have := h2 i hi
      exact (Array.getElem?_eq_some_iff.1 this).1
    · rw [if_neg h, Array.getElem?_setIfInBounds_ne (fun e => h e.symm)]; exact h2 i hi
/-- only block g and new blocks have turned -/
def Touch (g : Nat) (w w' : World) : Prop := w.grownBy w' (some g)
theorem Touch.refl (g : Nat) (w : World) : Touch g w w := ⟨rfl, rfl, rfl, Nat.le_refl _, fun _ _ _ => rfl⟩
theorem Touch.trans {g : Nat} {a b c : World} (h : Touch g a b) (k : Touch g b c) : Touch g a c :=
  ⟨k.os.trans h.os, k.tape.trans h.tape, k.output.trans h.output, Nat.le_trans h.size k.size, fun i hi hne => (k.block i (Nat.lt_of_lt_of_le hi h.size) hne).trans (h.block i hi hne)⟩
theorem Touch.drewN {g : Nat} {a b : World} (h : Touch g a b) (n : Nat) : Touch g a (b.drewN n) := ⟨h.os, h.tape, h.output, h.size, h.block⟩
theorem Touch.set {g : Nat} {a b : World} (h : Touch g a b) (j : Nat) (v : Value) : Touch g a (b.setCell ⟨g, j, none⟩ v) :=
  h.trans ⟨rfl, rfl, rfl, by simp [World.setCell], fun k hk hne => by
    rw [Below.heap_setCell]; intro e; apply hne; simp only at e; rw [e]⟩
theorem Touch.below {g B : Nat} {a b c : World} (h : Touch g b c) (hb : Below B a b) (hg : B ≤ g) (hB : B ≤ b.heap.size) : Below B a c := hb.grown h hB (fun k hk => by cases hk; exact hg)
theorem Touch.ofBelow {g : Nat} {a b : World} (h : Below a.heap.size a b) : Touch g a b := ⟨h.os, h.tape, h.output, h.size, fun k hk _ => h.block k hk⟩
theorem Own.below {w w' : World} {g n cap : Nat} {S : Nat → Int} (h : Own w g n cap S) (hb : Below w.heap.size w w') : Own w' g n cap S := by
  have hl := h.lt
  obtain ⟨cur, h1, h2, h3⟩ := h
  exact ⟨cur, by rw [hb.block g hl]; exact h1, h2, h3⟩
end Go.Proofs.Ytjapohjfheielaa
