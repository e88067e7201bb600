/- The frame's part for a parameter that is a list of strings; sizes. Conditions: none. -/
import Derived.Test.YtjfnkdgkkoffeaaR10
import Derived.ProofKit
import Derived.SliceStrings
import Derived.SizedLaws
namespace Go.Proofs.Ytjfnkdgkkoffeaa
open Go.ChangeShapes Go.WideShapes Go.ChangeAt Go.RowKit SealLaw

theorem look_small : ∀ (ls : List Bytes) (s : Nat), ∀ l ∈ (lookL s ls).1, ∃ x ∈ ls, l.length ≤ x.length
  | [], _, l, h => by cases h
  | y :: ys, s, l, h => by
    rw [lookL_cons] at h
    rcases List.mem_cons.1 h with rfl | h
    · refine ⟨y, List.mem_cons_self .., ?_⟩
      unfold lookOne
      cases told y with
      | none => simp
      | some v => simp [said]
    · obtain ⟨x, hx, hl⟩ := look_small ys _ l h
      exact ⟨x, List.mem_cons_of_mem _ hx, hl⟩
theorem read_small (t : Bytes) : ∀ l ∈ (readR t).1, l.length ≤ 140737488351232 := by
  intro l hl
  unfold readR at hl
  by_cases he : lookErr t = 0
  · rw [if_pos he] at hl
    have ht : t.length ≤ 65536 := by
      unfold lookErr at he
      split at he
      · omega
      · omega
    cases hf : firstBad (lookR t).2 0 with
    | some p => rw [hf] at hl; cases hl
    | none =>
      rw [hf] at hl
      have hl2 : l ∈ (lookR t).1 := hl
      unfold lookR at hl2
      rw [if_pos he] at hl2
      obtain ⟨x, hx, h1⟩ := look_small _ _ l hl2
      have := cut_len t x hx
      omega
  · rw [if_neg he] at hl; cases hl

section
variable {H : Type} {enc : TypeId × Value → H} {w : World} {base : Nat} {spare : Nat → Bool} {held : Bool}

theorem weights_strs (ss : List ByteArray) (s : ByteArray) (h : s ∈ ss) : s.size ∈ DataW.weightsAll (H := H) Try.prog 9 (Go.ChangeShapes.strs ss) := by
  induction ss with
  | nil => cases h
  | cons x xs ih =>
    show s.size ∈ DataW.weights Try.prog 9 (.lit (.string x.data.toList)) ++ DataW.weightsAll Try.prog 9 (Go.ChangeShapes.strs xs)
    rcases List.mem_cons.1 h with rfl | h
    · exact List.mem_append.2 (Or.inl (by simp [DataW.weights]))
    · exact List.mem_append.2 (Or.inr (ih h))

theorem open_strsArg {r : Reach} {b0 : Nat} {v : Value} {d : DataW H} {ps : List MemPlace} (hval : Value.okWide Try.prog w r b0 22 v) (hd : DataW.Trod enc Try.prog w base spare held 22 v d ps)
    {ts : List TypeId} {ds : List (DataW H)} (hsz : (DataW.weightsEach Try.prog ts ds).all (· ≤ reachBytes) = true) {j : Nat} (ht : ts[j]? = some 22) (hdj : ds[j]? = some d) :
    ∃ l : List Bytes, CameS w w.heap.size v l ∧ l.length ≤ 8796093022208 ∧ ∀ x ∈ l, x.length ≤ 140737488351232 := by
  obtain ⟨a0, len0, cap0, rfl⟩ := okWide_slice Try.underlying22 hval
  obtain ⟨fuel, hf⟩ := hd
  rcases Go.ChangeShapes.open_strings Try.underlying22 Try.underlying9 (by kernel_rfl) hf with ⟨hcs, hx⟩ | ⟨a, len, cap, ss, hcs, _, hle, hmax, hlen, hx, hcell, hsm⟩
  · simp [Value.cells] at hcs
    obtain ⟨rfl, rfl, rfl⟩ := hcs
    exact ⟨[], Or.inl ⟨rfl, rfl⟩, Nat.zero_le _, (fun _ h => nomatch h)⟩
  · simp [Value.cells] at hcs
    obtain ⟨rfl, rfl, rfl⟩ := hcs
    simp only [Prod.mk.injEq] at hx
    obtain ⟨rfl, _⟩ := hx
    have hls : len0 ≤ ss.length := by rw [hlen]; split <;> omega
    have hw := sized_slice hsz ht hdj Try.underlying22
    have hb : Try.prog.bytesOf 9 = 16 := by kernel_rfl
    rw [hb] at hw
    have htl : (ss.take len0).length = len0 := by rw [List.length_take]; omega
    have htk : (Go.ChangeShapes.strs (H := H) (ss.take len0)).length = len0 := by unfold Go.ChangeShapes.strs; rw [List.length_map, htl]
    rw [htk] at hw
    unfold reachBytes at hw
    refine ⟨(ss.take len0).map (fun s => s.data.toList), Or.inr ⟨a, cap0, by rw [List.length_map, htl], ?_⟩, by rw [List.length_map, htl]; omega, ?_⟩
    · intro hne
      have h0 : 0 < len0 := by
        rcases Nat.eq_zero_or_pos len0 with h | h
        · subst h; exact absurd (by simp) hne
        · exact h
      have hc0 := hcell 0 (by omega)
      rw [show a.add 0 = a from by simp [Addr.add]] at hc0
      have hsp : a.spot = none := by
        unfold World.cell? at hc0
        split at hc0
        · split at hc0
          · cases hc0
          · rename_i h; cases hs : a.spot with
            | none => rfl
            | some x => rw [hs] at h; simp at h
        · cases hc0
      refine ⟨hsp, ?_, ?_⟩
      · unfold World.cell? at hc0
        rcases Nat.lt_or_ge a.block w.heap.size with h' | h'
        · exact h'
        · rw [Array.getElem?_eq_none h'] at hc0; cases hc0
      · intro i hi
        rw [List.length_map, htl] at hi
        have hc := hcell i (by omega)
        have e : ((ss.take len0).map (fun s => s.data.toList)).getD i [] = (ss.getD i ByteArray.empty).data.toList := by
          simp [List.getD, hi, List.getElem?_eq_getElem (show i < ss.length from by omega)]
        rw [e]
        have e2 : (⟨(ss.getD i ByteArray.empty).data.toList.toArray⟩ : ByteArray) = ss.getD i ByteArray.empty := by apply ByteArray.ext; simp
        rw [e2, ← hc]
        unfold Addr.add
        by_cases h : i = 0
        · subst h; simp [← hsp]
        · simp [h]
    · intro x hx
      obtain ⟨s, hs, rfl⟩ := List.mem_map.1 hx
      have h1 : s.size ∈ DataW.weights (H := H) Try.prog 22 (.slice (Go.ChangeShapes.strs (ss.take len0)) (Go.ChangeShapes.strs (ss.drop len0))) := by
        simp only [DataW.weights, Try.underlying22]
        exact List.mem_cons_of_mem _ (List.mem_append.2 (Or.inl (weights_strs _ s hs)))
      have h2 := List.all_eq_true.1 hsz _ (DataW.weights_mem_each ht hdj _ h1)
      have h3 : s.size ≤ reachBytes := by simpa using h2
      unfold reachBytes at h3
      show s.data.toList.length ≤ _
      rw [Array.length_toList]
      exact h3
end
theorem Try.laidOut : laidOutB Try.prog = true := by kernel_rfl
end Go.Proofs.Ytjfnkdgkkoffeaa
