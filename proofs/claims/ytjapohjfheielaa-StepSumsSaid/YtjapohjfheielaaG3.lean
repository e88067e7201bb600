/- Walks: StepSums. Conditions: the masses lie in memory. -/
import Derived.Test.YtjapohjfheielaaE2
import Derived.Test.YtjapohjfheielaaG6
import Derived.Test.YtjapohjfheielaaC10
namespace Go.Proofs.Ytjapohjfheielaa
open Go.RowKit
open Ieee (FinW V dR big double wordOf deepD)
attribute [local irreducible] Ieee.V Ieee.Format.rnd fv Ieee.big Ieee.deepD flW sqW hU rN pk kickAt kickS driftS runR runO stepO chk

theorem call25 (x : Nat) (w : World) : (callFunc 25 #[.float .f64 x]).run Try.prog w = .ok (.value (.int .u64 x)) w := by
  rw [run_callFunc_extern Try.func25 (by kernel_rfl) (by kernel_rfl) (by kernel_rfl) (e := Extern.MathFloatBits.float64bits) (by kernel_rfl)]; rfl
theorem bits_any (x : Nat) (w : World) : Calls Try.prog 16 #[.float .f64 x, .float .f64 x] w fun e w' => e = .returned (.bool true) ∧ w = w' := by
  have h25 := fun u => call25 x u
  go_enter Try.func16, Try.ntmps16
  go_wp2
  go_ret
  exact ⟨rfl, rfl⟩

set_option maxHeartbeats 4000000 in
theorem sums_walk (v : Value) (n gw : Nat) (S : Nat → Int) (w : World) (hv : MIn w v n S) (hn : n ≤ 4398046511104) (hsz : n * 56 ≤ 140737488351232) (hgw : gw < 18446744073709551616) :
    Calls Try.prog 3 #[v, .float .f64 gw] w fun e w' => e = .returned (.bool true) ∧ Below w.heap.size w w' := by
  have HS := Lib.hid hv
  have HGW := Lib.hid hgw
  obtain ⟨A, ca, rfl⟩ := hv.form
  clear hv hgw
  go_enter Try.func3, Try.ntmps3
  go_wp2_with fail
  refine (awake_any _).mono ?_
  rintro e w1 ⟨rfl, hb⟩
  have B1 := Lib.hid hb
  have S1 := Lib.hid (HS.out.below hb)
  clear hb
  have hro := roomy_any (.slice A n ca) n S w1 S1.out hsz
  go_wp2_with fail
  refine hro.mono ?_
  rintro e wr ⟨gr, cr, rfl, hor, hnr, hcr, hgr, hb⟩
  have HOR := Lib.hid hor
  have HGR := Lib.hid (And.intro hnr (And.intro hcr hgr))
  have Br := Lib.hid (B1.out.trans (hb.mono B1.out.size))
  have Sr := Lib.hid (S1.out.below hb)
  have HMR : Hid (MIn wr (.slice (some ⟨gr, 0, none⟩) n cr) n S) := Lib.hid (Or.inr ⟨_, _, rfl, fun _ => ⟨gr, 0, rfl, fun j hj => by rw [← marked_low (S := S) hj]; exact hor.lies j (by omega)⟩⟩)
  clear hor hnr hcr hgr hb hro
  have hs1 := sumP_any _ n S wr HMR.out hn
  have hs2 := fun u (hu : MIn u (.slice A n ca) n S) => sumR_any _ n S u hu hn
  have hs3 := fun u (hu : MIn u (.slice (some ⟨gr, 0, none⟩) n cr) n S) => energyP_any _ n gw S u hu hn HGW.out
  have hs4 := fun u (hu : MIn u (.slice A n ca) n S) => energyR_any _ n gw S u hu hn HGW.out
  obtain ⟨t0, ht0⟩ : ∃ t, sumOf n S 0 = t := ⟨_, rfl⟩
  obtain ⟨t1, ht1⟩ : ∃ t, sumOf n S 1 = t := ⟨_, rfl⟩
  obtain ⟨t2, ht2⟩ : ∃ t, sumOf n S 2 = t := ⟨_, rfl⟩
  obtain ⟨C, hC⟩ : ∃ t, chk n S = t := ⟨_, rfl⟩
  obtain ⟨E, hE⟩ : ∃ t, enE gw n S = t := ⟨_, rfl⟩
  obtain ⟨F, hF⟩ : ∃ t, enF gw n S = t := ⟨_, rfl⟩
  rw [ht0, ht1, ht2, hC] at hs1 hs2
  rw [hE, hF] at hs3 hs4
  have HS1 := Lib.hid hs1
  have HS2 := Lib.hid hs2
  have HS3 := Lib.hid hs3
  have HS4 := Lib.hid hs4
  have hq := run_eq3_top t0 t1 t2
  clear hs1 hs2 hs3 hs4 ht0 ht1 ht2 hC hE hF
  go_wp2_with fail
  refine HS1.out.mono ?_
  rintro e wc ⟨rfl, hb⟩
  obtain ⟨wcA, hwcA⟩ : ∃ u, wc.alloc (.cells #[.int .i64 t0, .int .i64 t1, .int .i64 t2] 26) = u := ⟨_, rfl⟩
  have HBA : Hid (Below wr.heap.size wr wcA) := Lib.hid (by rw [← hwcA]; exact hb.alloc hb.size _)
  have ca0 : Hid (wcA.heap[wc.heap.size]? = some (.cells #[.int .i64 t0, .int .i64 t1, .int .i64 t2] 26 (0, 0))) := Lib.hid (by rw [← hwcA]; exact heap_alloc_new wc _)
  have hzA : Hid (wcA.heap.size = wc.heap.size + 1) := Lib.hid (by rw [← hwcA]; simp)
  clear hb
  go_wp2_with fail
  refine (HS2.out _ (Sr.out.below HBA.out)).mono ?_
  rintro e wd ⟨rfl, hb⟩
  obtain ⟨wdA, hwdA⟩ : ∃ u, wd.alloc (.cells #[.int .i64 t0, .int .i64 t1, .int .i64 t2] 26) = u := ⟨_, rfl⟩
  have HBB : Hid (Below wcA.heap.size wcA wdA) := Lib.hid (by rw [← hwdA]; exact hb.alloc hb.size _)
  have cb0 : Hid (wdA.heap[wd.heap.size]? = some (.cells #[.int .i64 t0, .int .i64 t1, .int .i64 t2] 26 (0, 0))) := Lib.hid (by rw [← hwdA]; exact heap_alloc_new wd _)
  have hzB : Hid (wdA.heap.size = wd.heap.size + 1) := Lib.hid (by rw [← hwdA]; simp)
  clear hb
  have HBAB := Lib.hid (HBA.out.trans (HBB.out.mono HBA.out.size))
  go_wp2_with fail
  refine (HS3.out _ (HMR.out.below HBAB.out)).mono ?_
  rintro e we ⟨rfl, hb⟩
  have HBC := Lib.hid hb
  have HBAC := Lib.hid (HBAB.out.trans (hb.mono HBAB.out.size))
  clear hb
  go_wp2_with fail
  refine (HS4.out _ (Sr.out.below HBAC.out)).mono ?_
  rintro e wf ⟨rfl, hb⟩
  have HBD := Lib.hid (HBC.out.trans (hb.mono HBC.out.size))
  have HBAD := Lib.hid (HBAC.out.trans (hb.mono HBAC.out.size))
  clear hb
  have hac := fun k => cell_of_row wcA wc.heap.size k _ 26 (0, 0) ca0.out
  have hbc := fun k => cell_of_row wdA wd.heap.size k _ 26 (0, 0) cb0.out
  have a0 : wf.cell? ⟨wc.heap.size, 0, none⟩ = some (.int .i64 t0) := by
    rw [((HBB.out.trans (HBD.out.mono HBB.out.size))).cell (p := ⟨wc.heap.size, 0, none⟩) (by rw [hzA.out]; exact Nat.lt_succ_self _)]; exact hac 0
  have a1 : wf.cell? ⟨wc.heap.size, 1, none⟩ = some (.int .i64 t1) := by
    rw [((HBB.out.trans (HBD.out.mono HBB.out.size))).cell (p := ⟨wc.heap.size, 1, none⟩) (by rw [hzA.out]; exact Nat.lt_succ_self _)]; exact hac 1
  have a2 : wf.cell? ⟨wc.heap.size, 2, none⟩ = some (.int .i64 t2) := by
    rw [((HBB.out.trans (HBD.out.mono HBB.out.size))).cell (p := ⟨wc.heap.size, 2, none⟩) (by rw [hzA.out]; exact Nat.lt_succ_self _)]; exact hac 2
  have b0 : wf.cell? ⟨wd.heap.size, 0, none⟩ = some (.int .i64 t0) := by
    rw [HBD.out.cell (p := ⟨wd.heap.size, 0, none⟩) (by rw [hzB.out]; exact Nat.lt_succ_self _)]; exact hbc 0
  have b1 : wf.cell? ⟨wd.heap.size, 1, none⟩ = some (.int .i64 t1) := by
    rw [HBD.out.cell (p := ⟨wd.heap.size, 1, none⟩) (by rw [hzB.out]; exact Nat.lt_succ_self _)]; exact hbc 1
  have b2 : wf.cell? ⟨wd.heap.size, 2, none⟩ = some (.int .i64 t2) := by
    rw [HBD.out.cell (p := ⟨wd.heap.size, 2, none⟩) (by rw [hzB.out]; exact Nat.lt_succ_self _)]; exact hbc 2
  have hkept := fun m => kept_any (.slice A n ca) gr n cr S (wf.drewN m) ((Sr.out.below HBAD.out).drewN m) ((HOR.out.below HBAD.out).drewN m) HGR.out.1 HGR.out.2.1 hsz
  have HKP := Lib.hid hkept
  have HB2 := Lib.hid (Br.out.trans (HBAD.out.mono Br.out.size))
  clear hac hbc hkept
  go_wp2_with (first | (go_at_call 16; refine (bits_any _ _).mono ?_; rintro e wg ⟨rfl, rfl⟩) | (go_at_call 17; refine (HKP.out 0).mono ?_; rintro e wg ⟨rfl, ⟨mk, rfl⟩⟩))
  go_ret
  exact ⟨rfl, below_drw HB2.out _⟩
end Go.Proofs.Ytjapohjfheielaa
