/- The frame's part for a parameter that is a list of floats: how it reads. Conditions: none. -/
import Derived.Test.YtlegkefonpiakaaV2
import Derived.ProofKit
import Derived.Deep.Slices
import Derived.WideKeyArgs
import Derived.SizedLaws
namespace Go.Proofs.Ytlegkefonpiakaa
open Go.ChangeShapes Go.WideShapes Go.ChangeAt Go.RowKit Go.Deep

section
variable {H : Type} {enc : TypeId × Value → H} {w : World} {base : Nat} {spare : Nat → Bool} {held : Bool}

theorem trod_flt {n : Nat} {u : Value} {x : DataW H × List MemPlace} (h : DataW.trod enc Try.prog w base spare held n 23 [u] = some x) : ∃ b, u = .float .f64 b ∧ b < 18446744073709551616 := by
  cases n with
  | zero => simp [DataW.trod] at h
  | succ n =>
    simp only [DataW.trod, Try.underlying23] at h
    cases u <;> simp at h
    rename_i k b
    obtain ⟨⟨h1, h2⟩, _⟩ := h
    subst h1
    exact ⟨b, rfl, by simpa [Lit.wf] using h2⟩

theorem open_floats {r : Reach} {b0 : Nat} {v : Value} {d : DataW H} {ps : List MemPlace} (hval : Value.okWide Try.prog w r b0 22 v) (hd : DataW.Trod enc Try.prog w base spare held 22 v d ps) :
    ∃ l : List Nat, Came w w.heap.size v l ∧ Words l ∧ l.length ≤ maxLen ∧ (d = .nil ∧ l = [] ∨ ∃ elems sp, d = .slice elems sp ∧ elems.length = l.length) := by
  obtain ⟨a0, len0, cap0, rfl⟩ := okWide_slice Try.underlying22 hval
  obtain ⟨fuel, hf⟩ := hd
  rcases open_slice1 Try.underlying22 (by kernel_rfl) hf with ⟨hcs, hx⟩ | ⟨a, len, cap, m, n, V, D, Pl, hcs, _, hle, hmax, hm, hx, hall⟩
  · simp [Value.cells] at hcs
    obtain ⟨rfl, rfl, rfl⟩ := hcs
    simp only [Prod.mk.injEq] at hx
    exact ⟨[], Or.inl ⟨rfl, rfl⟩, (fun _ h => nomatch h), Nat.zero_le _, Or.inl ⟨hx.1, rfl⟩⟩
  · simp [Value.cells] at hcs
    obtain ⟨rfl, rfl, rfl⟩ := hcs
    simp only [Prod.mk.injEq] at hx
    have hlm : len0 ≤ m := by rw [hm]; split <;> omega
    have hb : ∀ i, i < len0 → ∃ b : Nat, V i = .float .f64 b ∧ b < 18446744073709551616 := fun i hi => trod_flt (hall i (by omega)).2
    obtain ⟨f, hfb⟩ := choose_lt hb
    have hget : ∀ i, i < len0 → ((List.range len0).map f).getD i 0 = f i := by
      intro i hi
      simp [List.getD, hi]
    refine ⟨(List.range len0).map f, Or.inr ⟨a, cap0, by simp, ?_⟩, ?_, by simp; omega, Or.inr ⟨_, _, hx.1, by simp⟩⟩
    · intro hne
      have h0 : 0 < len0 := by
        rcases Nat.eq_zero_or_pos len0 with h | h
        · subst h; exact absurd rfl hne
        · exact h
      have hc0 := (hall 0 (by omega)).1
      rw [show a.add 0 = a from by simp [Addr.add]] at hc0
      have hsp : a.spot = none := by
        unfold World.cell? at hc0
        split at hc0
        · split at hc0
          · cases hc0
          · rename_i h; cases hs : a.spot with
            | none => rfl
            | some x => rw [hs] at h; simp at h
        · cases hc0
      refine ⟨hsp, ?_, ?_⟩
      · unfold World.cell? at hc0
        rcases Nat.lt_or_ge a.block w.heap.size with h' | h'
        · exact h'
        · rw [Array.getElem?_eq_none h'] at hc0; cases hc0
      · intro i hi
        have hi' : i < len0 := by simpa using hi
        rw [hget i hi', ← (hfb i hi').1, ← (hall i (by omega)).1]
        unfold Addr.add
        by_cases h : i = 0
        · subst h; simp [← hsp]
        · simp [h]
    · intro x hx
      obtain ⟨i, hi, rfl⟩ := List.mem_map.1 hx
      exact (hfb i (List.mem_range.1 hi)).2
end

theorem sized_len {H : Type} {ts : List TypeId} {ds : List (DataW H)} (h : (DataW.weightsEach Try.prog ts ds).all (· ≤ reachBytes) = true) {j : Nat} {d : DataW H} (ht : ts[j]? = some 22) (hd : ds[j]? = some d) {l : List Nat}
    (hl : d = .nil ∧ l = [] ∨ ∃ elems sp, d = .slice elems sp ∧ elems.length = l.length) : l.length ≤ 17592186043904 := by
  rcases hl with ⟨_, rfl⟩ | ⟨elems, sp, rfl, he⟩
  · simp
  · have h1 := sized_slice h ht hd Try.underlying22
    have h2 : Try.prog.bytesOf 23 = 8 := by kernel_rfl
    rw [h2] at h1
    unfold reachBytes at h1
    omega

theorem Try.laidOut : laidOutB Try.prog = true := by kernel_rfl
end Go.Proofs.Ytlegkefonpiakaa
