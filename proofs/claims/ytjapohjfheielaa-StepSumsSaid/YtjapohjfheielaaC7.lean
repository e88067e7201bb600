/- Walks: awake. Conditions: none. -/
import Derived.Test.YtjapohjfheielaaC6
import Derived.Test.YtjapohjfheielaaD3
import Derived.Outline
namespace Go.Proofs.Ytjapohjfheielaa
open Go.RowKit
open Ieee (FinW V dR big double wordOf deepD)
attribute [local irreducible] Ieee.V Ieee.Format.rnd fv Ieee.big Ieee.deepD flW sqW hU rN pk kickAt kickS driftS runR runO stepO chk

theorem aw_lies (w : World) : MIn (w.alloc (.cells #[.int .i64 1, .int .i64 0, .int .i64 0, .int .i64 0, .int .i64 4, .int .i64 0, .int .i64 0] 40)) (.slice (some ⟨w.heap.size, 0, none⟩) 1 1) 1 awS := by
  refine Or.inr ⟨_, _, rfl, fun _ => ⟨_, 0, rfl, fun j hj => ?_⟩⟩
  rw [Nat.zero_add, cell_of_row _ _ _ _ _ (0, 0) (heap_alloc_new w _)]
  have : j = 0 ∨ j = 1 ∨ j = 2 ∨ j = 3 ∨ j = 4 ∨ j = 5 ∨ j = 6 := by omega
  rcases this with rfl | rfl | rfl | rfl | rfl | rfl | rfl <;> rfl

set_option maxHeartbeats 1000000 in
theorem awake_any (w : World) : Calls Try.prog 10 #[] w fun e w' => e = .returned (.bool true) ∧ Below w.heap.size w w' := by
  have hrun := runP_any (.slice (some ⟨w.heap.size, 0, none⟩) 1 1) 1 0 1 awS _ (aw_lies w) (by omega) (by omega) (by omega)
  have HR := Lib.hid hrun
  clear hrun
  go_enter Try.func10, Try.ntmps10
  go_wp2_with fail
  refine HR.out.mono ?_
  rintro e w1 ⟨hb, h⟩
  have HB := Lib.hid (((Below.refl w.heap.size w).alloc (Nat.le_refl _) _).trans (hb.mono (by simp)))
  rcases h with ⟨h0, g, cap, rfl, hg, ho, hn, hm⟩ | ⟨h0, rfl⟩
  · have hc := ho.lies 1 (by omega)
    rw [aw_run.2, Nat.zero_add] at hc
    clear hb h0 hg ho hn hm
    go_wp2
    go_ret
    exact ⟨rfl, HB.out⟩
  · exact absurd aw_run.1 h0
end Go.Proofs.Ytjapohjfheielaa
