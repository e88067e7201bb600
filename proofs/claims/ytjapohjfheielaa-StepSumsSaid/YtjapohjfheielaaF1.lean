/- The frame's part for a parameter that is a list of masses. Conditions: none. -/
import Derived.Test.YtjapohjfheielaaC4
import Derived.ProofKit
import Derived.OpenShut
import Derived.Deep.Slices
import Derived.Laws.IdiomArrays
import Derived.SizedLaws
namespace Go.Proofs.Ytjapohjfheielaa
open Go.ChangeShapes Go.WideShapes Go.ChangeAt Go.RowKit Go.Deep

section
variable {H : Type} {enc : TypeId × Value → H} {w : World} {base : Nat} {spare : Nat → Bool} {held : Bool}

theorem trod_mass {fuel : Nat} {cs : List Value} {x : DataW H × List MemPlace} (h : DataW.trod enc Try.prog w base spare held fuel 40 cs = some x) :
    ∃ m x0 x1 x2 p0 p1 p2 : Int, cs = [.int .i64 m, .int .i64 x0, .int .i64 x1, .int .i64 x2, .int .i64 p0, .int .i64 p1, .int .i64 p2] ∧
      (∀ y ∈ [m, x0, x1, x2, p0, p1, p2], -9223372036854775808 ≤ y ∧ y ≤ 9223372036854775807) := by
  obtain ⟨xs, k, _, _, hlen, hxl, hf⟩ := DataW.trod_struct Try.underlying40 h
  have hc : Try.prog.cellsOf 40 = 7 := by kernel_rfl
  have c2 : Try.prog.cellsOf 2 = 1 := by kernel_rfl
  have c26 : Try.prog.cellsOf 26 = 3 := by kernel_rfl
  rw [hc] at hlen
  match cs, hlen with
  | [v0, v1, v2, v3, v4, v5, v6], _ =>
    have f0 : DataW.trod enc Try.prog w base spare held k 2 (([v0, v1, v2, v3, v4, v5, v6].drop 0).take (Try.prog.cellsOf 2)) = xs[0]? := hf 0 _ rfl
    have f1 : DataW.trod enc Try.prog w base spare held k 26 (([v0, v1, v2, v3, v4, v5, v6].drop 1).take (Try.prog.cellsOf 26)) = xs[1]? := hf 1 _ rfl
    have f2 : DataW.trod enc Try.prog w base spare held k 26 (([v0, v1, v2, v3, v4, v5, v6].drop 4).take (Try.prog.cellsOf 26)) = xs[2]? := hf 2 _ rfl
    rw [c2] at f0
    rw [c26] at f1 f2
    have g : ∀ {i : Nat} {z : Option (DataW H × List MemPlace)}, i < xs.length → z = xs[i]? → ∃ y, z = some y := fun hi hz => ⟨_, hz.trans (List.getElem?_eq_getElem hi)⟩
    have hx3 : xs.length = 3 := hxl
    obtain ⟨y0, e0⟩ := g (by omega) f0
    obtain ⟨y1, e1⟩ := g (by omega) f1
    obtain ⟨y2, e2⟩ := g (by omega) f2
    obtain ⟨m, hm, _, wm⟩ := DataW.trod_int Try.underlying2 e0
    obtain ⟨_, _, _, _, _, a0, a1, a2⟩ := trod_array3 (c0 := v1) (c1 := v2) (c2 := v3) Try.underlying26 c2 e1
    obtain ⟨_, _, _, _, _, b0, b1, b2⟩ := trod_array3 (c0 := v4) (c1 := v5) (c2 := v6) Try.underlying26 c2 e2
    obtain ⟨x0, hx0, _, w0⟩ := DataW.trod_int Try.underlying2 a0
    obtain ⟨x1, hx1, _, w1⟩ := DataW.trod_int Try.underlying2 a1
    obtain ⟨x2, hx2, _, w2⟩ := DataW.trod_int Try.underlying2 a2
    obtain ⟨p0, hp0, _, w3⟩ := DataW.trod_int Try.underlying2 b0
    obtain ⟨p1, hp1, _, w4⟩ := DataW.trod_int Try.underlying2 b1
    obtain ⟨p2, hp2, _, w5⟩ := DataW.trod_int Try.underlying2 b2
    have hm' : v0 = .int .i64 m := by simpa using hm
    cases hx0; cases hx1; cases hx2; cases hp0; cases hp1; cases hp2
    subst hm'
    refine ⟨m, x0, x1, x2, p0, p1, p2, rfl, ?_⟩
    simp [Lit.wf, IntKind.min, IntKind.max, IntKind.signed, IntKind.bits] at wm w0 w1 w2 w3 w4 w5
    intro y hy
    simp only [List.mem_cons, List.not_mem_nil, or_false] at hy
    rcases hy with rfl | rfl | rfl | rfl | rfl | rfl | rfl <;> omega

theorem open_massArg {r : Reach} {b0 : Nat} {v : Value} {d : DataW H} {ps : List MemPlace} (hval : Value.okWide Try.prog w r b0 22 v) (hd : DataW.Trod enc Try.prog w base spare held 22 v d ps)
    {ts : List TypeId} {ds : List (DataW H)} (hsz : (DataW.weightsEach Try.prog ts ds).all (· ≤ reachBytes) = true) {j : Nat} (ht : ts[j]? = some 22) (hdj : ds[j]? = some d) :
    ∃ (n : Nat) (S : Nat → Int), MIn w v n S ∧ n * 56 ≤ 140737488351232 ∧ ∀ e, e < n * 7 → -9223372036854775808 ≤ S e ∧ S e ≤ 9223372036854775807 := by
  obtain ⟨a0, len0, cap0, rfl⟩ := okWide_slice Try.underlying22 hval
  obtain ⟨fuel, hf⟩ := hd
  rcases open_slice Try.underlying22 hf with ⟨hcs, hx⟩ | ⟨a, len, cap, m, k, D, Pl, hcs, _, hle, hmax, hmm, hx, hi⟩
  · simp [Value.cells] at hcs
    obtain ⟨rfl, rfl, rfl⟩ := hcs
    exact ⟨0, fun _ => 0, Or.inl ⟨rfl, rfl⟩, by omega, fun e he => by omega⟩
  · simp [Value.cells] at hcs
    obtain ⟨rfl, rfl, rfl⟩ := hcs
    simp only [Prod.mk.injEq] at hx
    obtain ⟨rfl, _⟩ := hx
    have hw := sized_slice hsz ht hdj Try.underlying22
    have hb : Try.prog.bytesOf 40 = 56 := by kernel_rfl
    rw [hb, List.length_map, List.length_range] at hw
    unfold reachBytes at hw
    have hlm : len0 ≤ m := by rw [hmm]; split <;> omega
    have hc : Try.prog.cellsOf 40 = 7 := by kernel_rfl
    have key : ∀ i, i < len0 → ∃ z : Nat → Int, ∀ t, t < 7 → w.cell? ((a.add (i * 7)).add t) = some (.int .i64 (z t)) ∧ (-9223372036854775808 ≤ z t ∧ z t ≤ 9223372036854775807) := by
      intro i hil
      obtain ⟨cs', h1, h2⟩ := hi i (by omega)
      rw [hc] at h1
      obtain ⟨_, h3, h4⟩ := World.cells?_some h1
      obtain ⟨q, x0, x1, x2, p0, p1, p2, rfl, hbd⟩ := trod_mass h2
      refine ⟨fun t => [q, x0, x1, x2, p0, p1, p2].getD t 0, fun t ht => ⟨?_, ?_⟩⟩
      · rw [h4 t ht]
        match t, ht with
        | 0, _ => rfl
        | 1, _ => rfl
        | 2, _ => rfl
        | 3, _ => rfl
        | 4, _ => rfl
        | 5, _ => rfl
        | 6, _ => rfl
      · apply hbd
        show [q, x0, x1, x2, p0, p1, p2].getD t 0 ∈ _
        rw [List.getD_eq_getElem?_getD, List.getElem?_eq_getElem (by exact ht)]
        exact List.getElem_mem _
    have hz : ∃ S : Nat → Int, ∀ e, e < len0 * 7 → w.cell? (a.add e) = some (.int .i64 (S e)) ∧ (-9223372036854775808 ≤ S e ∧ S e ≤ 9223372036854775807) := by
      refine ⟨fun e => match w.cell? (a.add e) with | some (.int _ y) => y | _ => 0, fun e he => ?_⟩
      obtain ⟨z, h5⟩ := key (e / 7) (by omega)
      obtain ⟨h6, h7⟩ := h5 (e % 7) (by omega)
      rw [Go.Deep.add_add, show e / 7 * 7 + e % 7 = e from by omega] at h6
      simp only [h6]
      exact ⟨trivial, h7⟩
    obtain ⟨S, hS⟩ := hz
    refine ⟨len0, S, Or.inr ⟨a, cap0, rfl, fun hn => ?_⟩, by omega, fun e he => (hS e he).2⟩
    have hc0 := (hS 0 (by omega)).1
    rw [show a.add 0 = a from by simp [Addr.add]] at hc0
    have hsp : a.spot = none := by
      unfold World.cell? at hc0
      split at hc0
      · split at hc0
        · cases hc0
        · rename_i h; cases hs : a.spot with
          | none => rfl
          | some x => rw [hs] at h; simp at h
      · cases hc0
    obtain ⟨b, off, spot⟩ := a
    simp only at hsp
    subst hsp
    refine ⟨b, off, rfl, fun e he => ?_⟩
    rw [← (hS e he).1]
    unfold Addr.add
    by_cases h : e = 0
    · subst h; simp
    · simp [h]
theorem open_massCap {r : Reach} {b0 : Nat} {v : Value} {d : DataW H} {ps : List MemPlace} (hval : Value.okWide Try.prog w r b0 22 v) (hd : DataW.Trod enc Try.prog w base spare held 22 v d ps) :
    ∀ A n c, v = .slice A n c → n ≤ c ∧ c ≤ maxLen := by
  obtain ⟨a0, len0, cap0, rfl⟩ := okWide_slice Try.underlying22 hval
  obtain ⟨fuel, hf⟩ := hd
  intro A n c e
  cases e
  rcases open_slice Try.underlying22 hf with ⟨hcs, hx⟩ | ⟨a, len, cap, m, k, D, Pl, hcs, _, hle, hmax, _⟩
  · simp [Value.cells] at hcs
    obtain ⟨rfl, rfl, rfl⟩ := hcs
    exact ⟨Nat.le_refl _, Nat.zero_le _⟩
  · simp [Value.cells] at hcs
    obtain ⟨rfl, rfl, rfl⟩ := hcs
    exact ⟨hle, hmax⟩
end
theorem Try.laidOut : laidOutB Try.prog = true := by kernel_rfl
end Go.Proofs.Ytjapohjfheielaa
