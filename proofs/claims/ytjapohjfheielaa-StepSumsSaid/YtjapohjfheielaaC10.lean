/- Walks: roomy, kept. Conditions: the masses lie in memory; sizes within reach. -/
import Derived.Test.YtjapohjfheielaaC7
namespace Go.Proofs.Ytjapohjfheielaa
open Go.RowKit
attribute [local irreducible] chk

/-- a list with its marks -/
def marked (n : Nat) (S : Nat → Int) : Nat → Int := fun e => if e < n * 7 then S e else if e = n * 7 then 77 else if e = (n + 1) * 7 then 78 else 0
def marks : Nat → Int := fun e => if e = 0 then 77 else if e = 7 then 78 else 0
theorem vals_marked (n : Nat) (S : Nat → Int) : vals n S ++ vals 2 marks = vals (n + 2) (marked n S) := by
  apply List.ext_getElem?
  intro j
  by_cases h1 : j < n * 7
  · rw [List.getElem?_append_left (by rw [vals_length]; exact h1), vals_get h1, vals_get (by omega)]
    unfold marked; rw [if_pos h1]
  · rw [List.getElem?_append_right (by rw [vals_length]; omega), vals_length]
    by_cases h2 : j < (n + 2) * 7
    · rw [vals_get (by omega), vals_get h2]
      unfold marked marks
      rw [if_neg h1]
      by_cases h3 : j = n * 7
      · rw [if_pos (by omega), if_pos h3]
      · rw [if_neg (by omega), if_neg h3]
        by_cases h4 : j = (n + 1) * 7
        · rw [if_pos (by omega), if_pos h4]
        · rw [if_neg (by omega), if_neg h4]
    · rw [List.getElem?_eq_none (by rw [vals_length]; omega), List.getElem?_eq_none (by rw [vals_length]; omega)]
theorem marks_lie (w : World) : MIn (w.alloc (.cells #[.int .i64 77, .int .i64 0, .int .i64 0, .int .i64 0, .int .i64 0, .int .i64 0, .int .i64 0, .int .i64 78, .int .i64 0, .int .i64 0, .int .i64 0, .int .i64 0, .int .i64 0, .int .i64 0] 40)) (.slice (some ⟨w.heap.size, 0, none⟩) 2 2) 2 marks := by
  refine Or.inr ⟨_, _, rfl, fun _ => ⟨_, 0, rfl, fun j hj => ?_⟩⟩
  rw [Nat.zero_add, cell_of_row _ _ _ _ _ (0, 0) (heap_alloc_new w _)]
  have : j = 0 ∨ j = 1 ∨ j = 2 ∨ j = 3 ∨ j = 4 ∨ j = 5 ∨ j = 6 ∨ j = 7 ∨ j = 8 ∨ j = 9 ∨ j = 10 ∨ j = 11 ∨ j = 12 ∨ j = 13 := by omega
  rcases this with rfl | rfl | rfl | rfl | rfl | rfl | rfl | rfl | rfl | rfl | rfl | rfl | rfl | rfl <;> rfl

def RoomyPost (n : Nat) (S : Nat → Int) (w : World) (e : Ending) (w' : World) : Prop :=
  ∃ g cap, e = .returned (.slice (some ⟨g, 0, none⟩) n cap) ∧ Own w' g (n + 2) cap (marked n S) ∧ n + 2 ≤ cap ∧ cap ≤ maxLen ∧ w.heap.size ≤ g ∧ Below w.heap.size w w'

set_option maxHeartbeats 2000000 in
theorem roomy_any (v : Value) (n : Nat) (S : Nat → Int) (w : World) (hv : MIn w v n S) (hsz : n * 56 ≤ 140737488351232) :
    Calls Try.prog 11 #[v] w (RoomyPost n S w) := by
  have HS := Lib.hid hv
  obtain ⟨A, ca, rfl⟩ := hv.form
  clear hv
  have E1 := Lib.hid (own_empty w)
  have C1 := Lib.hid (HS.out.below ((Below.refl _ _).alloc (Nat.le_refl _) (.cells #[] 40)))
  have ZA : Hid ((0 + n) * 56 ≤ 140737488355328) := Lib.hid (by omega)
  have ZB : Hid (w.heap.size ≤ (w.alloc (.cells #[] 40)).heap.size) := Lib.hid (by simp)
  have hns : n ≤ 4398046511104 := by omega
  go_enter Try.func11, Try.ntmps11
  go_wp2_with (first | (at_builtin; refine wpList_append_srcM rfl _ _ rfl w.heap.size 0 _ [] rfl E1.out _ n S rfl C1.out ZA.out ZB.out ?_))
  intro va wa hown hgr hblk
  have hrow := own_of_row (S := S) (show wa.ownsRow w.heap.size 40 7 va n (vals n S) from by simpa using hown) (by rcases hblk with h | h <;> exact ⟨_, h⟩)
  obtain ⟨ga, cza, rfl, hga, ho, hnc, hcm⟩ := hrow
  have OR := Lib.hid (row_of_own ho hga hnc hcm)
  have BA := Lib.hid (show Below w.heap.size w wa from ((Below.refl w.heap.size w).alloc (Nat.le_refl _) (.cells #[] 40)).grown hgr (by simp) (by intro k hk; simp [Value.ownBlock] at hk; omega))
  have HGA := Lib.hid hga
  clear hown hgr hblk hga ho hnc hcm E1 C1 ZA ZB
  have ZA : Hid ((n + 2) * 56 ≤ 140737488355328) := Lib.hid (by omega)
  have ZB : Hid (∀ ob : Obj, w.heap.size ≤ (wa.alloc ob).heap.size) := Lib.hid (fun ob => by have := BA.out.size; simp; omega)
  go_wp2_with (first | (at_builtin; refine wpList_append_srcM rfl _ _ rfl w.heap.size n _ _ rfl (OR.out.alloc _) _ 2 marks rfl (marks_lie wa) ZA.out (ZB.out _) ?_))
  intro vb wb hown hgr hblk
  rw [vals_marked] at hown
  have hrow := own_of_row hown (by rcases hblk with h | h <;> exact ⟨_, h⟩)
  obtain ⟨gb, czb, rfl, hgb, ho, hnc, hcm⟩ := hrow
  have OB := Lib.hid (And.intro ho (And.intro hnc (And.intro hcm hgb)))
  have BB := Lib.hid ((BA.out.alloc BA.out.size _).grown hgr (Nat.le_trans BA.out.size (by simp)) (by
    intro q hq
    exact ((OR.out.alloc (.cells #[] 40)).lt q hq).1))
  have hn2 : n + 2 ≤ czb := hnc
  clear hown hgr hblk ho hnc hcm hgb ZA ZB
  go_wp2
  go_ret
  exact ⟨gb, czb, rfl, OB.out.1, OB.out.2.1, OB.out.2.2.1, OB.out.2.2.2, BB.out⟩

theorem marked_low {n : Nat} {S : Nat → Int} {e : Nat} (h : e < n * 7) : marked n S e = S e := by unfold marked; rw [if_pos h]
theorem marked_a {n : Nat} {S : Nat → Int} : marked n S (n * 7) = 77 := by unfold marked; rw [if_neg (by omega), if_pos rfl]
theorem marked_b {n : Nat} {S : Nat → Int} : marked n S ((n + 1) * 7) = 78 := by unfold marked; rw [if_neg (by omega), if_neg (by omega), if_pos rfl]
theorem marked_0 {n : Nat} {S : Nat → Int} {e : Nat} (h : n * 7 ≤ e) (h1 : e ≠ n * 7) (h2 : e ≠ (n + 1) * 7) : marked n S e = 0 := by unfold marked; rw [if_neg (by omega), if_neg h1, if_neg h2]
set_option maxHeartbeats 2000000 in
theorem kept_any (v : Value) (g n cap : Nat) (S : Nat → Int) (w : World) (hv : MIn w v n S) (ho : Own w g (n + 2) cap (marked n S)) (hc : n + 2 ≤ cap) (hcm : cap ≤ maxLen) (hsz : n * 56 ≤ 140737488351232) :
    Calls Try.prog 17 #[.slice (some ⟨g, 0, none⟩) n cap, v] w fun e w' => e = .returned (.bool true) ∧ Drawn w w' := by
  have HS := Lib.hid hv
  have HO := Lib.hid ho
  obtain ⟨A, ca, rfl⟩ := hv.form
  have hns : n ≤ 4398046511104 := by omega
  unfold maxLen at hcm
  have hsame := same_any (.slice (some ⟨g, 0, none⟩) n cap) (.slice A n ca) n (marked n S) S w (Or.inr ⟨_, _, rfl, fun _ => ⟨g, 0, rfl, fun j hj => ho.lies j (by omega)⟩⟩) hv (fun j hj => marked_low hj) (by omega)
  have HSM := Lib.hid hsame
  have hl := ho.lies
  have c0 := hl (n * 7) (by omega)
  have c1 := hl (n * 7 + 1) (by omega)
  have c2 := hl (n * 7 + 2) (by omega)
  have c3 := hl (n * 7 + 3) (by omega)
  have c4 := hl (n * 7 + 4) (by omega)
  have c5 := hl (n * 7 + 5) (by omega)
  have c6 := hl (n * 7 + 6) (by omega)
  have d0 := hl ((n + 1) * 7) (by omega)
  have d1 := hl ((n + 1) * 7 + 1) (by omega)
  have d2 := hl ((n + 1) * 7 + 2) (by omega)
  have d3 := hl ((n + 1) * 7 + 3) (by omega)
  have d4 := hl ((n + 1) * 7 + 4) (by omega)
  have d5 := hl ((n + 1) * 7 + 5) (by omega)
  have d6 := hl ((n + 1) * 7 + 6) (by omega)
  rw [Nat.zero_add] at c0 c1 c2 c3 c4 c5 c6 d0 d1 d2 d3 d4 d5 d6
  rw [marked_a] at c0
  rw [marked_b] at d0
  rw [marked_0 (by omega) (by omega) (by omega)] at c1 c2 c3 c4 c5 c6 d1 d2 d3 d4 d5 d6
  have hz := run_eq3_same 0 0 0
  clear hv ho hsame hl
  go_enter Try.func17, Try.ntmps17
  go_wp2_with (first | (go_at_call 23; refine HSM.out.mono ?_; rintro e wf ⟨rfl, ⟨md, rfl⟩⟩))
  go_ret
  exact ⟨rfl, ⟨_, rfl⟩⟩
end Go.Proofs.Ytjapohjfheielaa
