/- Walks: StepKeeps. Conditions: the masses lie in memory. -/
import Derived.Test.YtjapohjfheielaaC8
import Derived.Test.YtjapohjfheielaaC9
namespace Go.Proofs.Ytjapohjfheielaa
open Go.RowKit
open Ieee (FinW V dR big double wordOf deepD)
attribute [local irreducible] Ieee.V Ieee.Format.rnd fv Ieee.big Ieee.deepD flW sqW hU rN pk kickAt kickS driftS runR runO stepO chk

theorem run_eq3_top (a b c : Int) (u : World) : (Op.equalIn 10000 26 (.agg #[.int .i64 a, .int .i64 b, .int .i64 c]) (.agg #[.int .i64 a, .int .i64 b, .int .i64 c])).run Try.prog u = .ok true u := by
  have := run_eq3 9998 a b c a b c u
  simpa using this

set_option maxHeartbeats 4000000 in
theorem keeps_walk (v : Value) (n gw : Nat) (N : Int) (S : Nat → Int) (w : World) (hv : MIn w v n S) (hn : n ≤ 4398046511104) (hsz : n * 56 ≤ 140737488351232) (hgw : gw < 18446744073709551616) (hN : -9223372036854775808 ≤ N ∧ N ≤ 9223372036854775807) :
    Calls Try.prog 6 #[v, .float .f64 gw, .int .i64 N] w fun e w' => e = .returned (.bool true) ∧ Below w.heap.size w w' := by
  have HS := Lib.hid hv
  have HGW := Lib.hid hgw
  obtain ⟨A, ca, rfl⟩ := hv.form
  clear hv hgw
  have HF := Lib.hid (fewN_le N)
  have hfa := fun u => few_any N u hN
  have HN := Lib.hid hfa
  obtain ⟨M, hM⟩ : ∃ M, fewN N = M := ⟨_, rfl⟩
  rw [hM] at HF HN
  have hf1 := HF.out.1
  have hf2 := HF.out.2
  clear hN hfa hM HF
  go_enter Try.func6, Try.ntmps6
  go_wp2_with fail
  refine (awake_any _).mono ?_
  rintro e w1 ⟨rfl, hb⟩
  have B1 := Lib.hid hb
  have S1 := Lib.hid (HS.out.below hb)
  clear hb
  have Ea := Lib.hid (own_empty w1)
  have Ca := Lib.hid (S1.out.below ((Below.refl _ _).alloc (Nat.le_refl _) (.cells #[] 40)))
  have ZAa : Hid ((0 + n) * 56 ≤ 140737488355328) := Lib.hid (by omega)
  have ZBa : Hid (w1.heap.size ≤ (w1.alloc (.cells #[] 40)).heap.size) := Lib.hid (by simp)
  go_wp2_with (first | (at_builtin; refine wpList_append_srcM rfl _ _ rfl w1.heap.size 0 _ [] rfl Ea.out _ n S rfl Ca.out ZAa.out ZBa.out ?_))
  intro va wa hown hgr hblk
  have hrow := own_of_row (S := S) (show va.ownsBy wa w1 n S from by simpa [Value.ownsBy] using hown) (by rcases hblk with h | h <;> exact ⟨_, h⟩)
  obtain ⟨ga, cza, rfl, hg, ho, hnc, hcm⟩ := hrow
  have Oa := Lib.hid ho
  have Ba := Lib.hid (B1.out.trans (Below.mono (((Below.refl w1.heap.size w1).alloc (Nat.le_refl _) (.cells #[] 40)).grown hgr (by simp) (by intro k hk; simp [Value.ownBlock] at hk; omega)) B1.out.size))
  have Ka := Lib.hid (show Below w1.heap.size w1 wa from ((Below.refl w1.heap.size w1).alloc (Nat.le_refl _) (.cells #[] 40)).grown hgr (by simp) (by intro k hk; simp [Value.ownBlock] at hk; omega))
  clear hown hgr hblk hg ho hnc hcm Ea Ca ZAa ZBa
  go_wp2_with fail
  refine (HN.out _).mono ?_
  rintro e w' ⟨rfl, rfl⟩
  have hrun := runP_any (.slice (some ⟨ga, 0, none⟩) n cza) n gw M S wa Oa.out.min hn HGW.out (by omega)
  go_wp2_with fail
  refine hrun.mono ?_
  rintro e wb ⟨hb, h⟩
  have Bb := Lib.hid (Ba.out.trans (hb.mono Ba.out.size))
  have Sb := Lib.hid ((S1.out.below Ka.out).below hb)
  clear hb hrun
  rcases h with ⟨h0, gb, cb, rfl, _, ho, _, _⟩ | ⟨h0, rfl⟩
  · have Ob := Lib.hid ho
    have hk := run_ok h0
    have e0 : sumOf n S 0 = totP n S 0 := by unfold sumOf; rw [if_pos hk.2]
    have e1 : sumOf n S 1 = totP n S 1 := by unfold sumOf; rw [if_pos hk.2]
    have e2 : sumOf n S 2 = totP n S 2 := by unfold sumOf; rw [if_pos hk.2]
    have f0 : sumOf n (runR gw n S M).2 0 = totP n S 0 := by unfold sumOf; rw [if_pos hk.1]; exact totP_R h0 0 (by omega)
    have f1 : sumOf n (runR gw n S M).2 1 = totP n S 1 := by unfold sumOf; rw [if_pos hk.1]; exact totP_R h0 1 (by omega)
    have f2 : sumOf n (runR gw n S M).2 2 = totP n S 2 := by unfold sumOf; rw [if_pos hk.1]; exact totP_R h0 2 (by omega)
    have hs1 := sumR_any _ n S wb Sb.out hn
    rw [e0, e1, e2, hk.2] at hs1
    have hs2 := fun u (hu : MIn u (.slice (some ⟨gb, 0, none⟩) n cb) n (runR gw n S M).2) => sumR_any _ n (runR gw n S M).2 u hu hn
    rw [f0, f1, f2, hk.1] at hs2
    obtain ⟨t0, ht0⟩ : ∃ t, totP n S 0 = t := ⟨_, rfl⟩
    obtain ⟨t1, ht1⟩ : ∃ t, totP n S 1 = t := ⟨_, rfl⟩
    obtain ⟨t2, ht2⟩ : ∃ t, totP n S 2 = t := ⟨_, rfl⟩
    rw [ht0, ht1, ht2] at hs1 hs2
    have HS1 := Lib.hid hs1
    have HS2 := Lib.hid hs2
    have HMB := Lib.hid (Ob.out.min (c2 := cb))
    have hq := run_eq3_top t0 t1 t2
    clear ho h0 hk e0 e1 e2 f0 f1 f2 hs1 hs2 ht0 ht1 ht2
    go_wp2_with fail
    refine HS1.out.mono ?_
    rintro e wc ⟨rfl, hb⟩
    have Bc := Lib.hid (Bb.out.trans (hb.mono Bb.out.size))
    have HMC := Lib.hid ((HMB.out.below hb).below ((Below.refl _ _).alloc (Nat.le_refl _) (.cells #[.int .i64 t0, .int .i64 t1, .int .i64 t2] 26)))
    have hz1 : ∀ k, wc.heap.size = k → (wc.alloc (.cells #[.int .i64 t0, .int .i64 t1, .int .i64 t2] 26)).heap.size = k + 1 := fun k hk => by simp [hk]
    have HZ1 := Lib.hid hz1
    clear hb hz1
    go_wp2_with fail
    refine (HS2.out _ HMC.out).mono ?_
    rintro e wd ⟨rfl, hb⟩
    have hc0 := hb.cell (p := ⟨wc.heap.size, 0, none⟩) (by simp)
    have hc1 := hb.cell (p := ⟨wc.heap.size, 1, none⟩) (by simp)
    have hc2 := hb.cell (p := ⟨wc.heap.size, 2, none⟩) (by simp)
    have hrw := fun k => cell_of_row (wc.alloc (.cells #[.int .i64 t0, .int .i64 t1, .int .i64 t2] 26)) wc.heap.size k _ 26 (0, 0) (heap_alloc_new wc _)
    rw [hrw 0] at hc0
    rw [hrw 1] at hc1
    rw [hrw 2] at hc2
    have hc0 : wd.cell? ⟨wc.heap.size, 0, none⟩ = some (.int .i64 t0) := hc0
    have hc1 : wd.cell? ⟨wc.heap.size, 1, none⟩ = some (.int .i64 t1) := hc1
    have hc2 : wd.cell? ⟨wc.heap.size, 2, none⟩ = some (.int .i64 t2) := hc2
    have hlt : wc.heap.size < wd.heap.size := Nat.lt_of_lt_of_le (by simp) hb.size
    have Bd := Lib.hid (((Bc.out.alloc Bc.out.size (.cells #[.int .i64 t0, .int .i64 t1, .int .i64 t2] 26))).trans (hb.mono (by simp; exact Nat.le_succ_of_le Bc.out.size)))
    clear hb hrw
    go_wp2
    go_ret
    exact ⟨rfl, Bd.out.alloc Bd.out.size _⟩
  · have hne : ((runR gw n S M).1 != 0) = true := by rw [bne_iff_ne]; exact h0
    obtain ⟨E, hE⟩ : ∃ E, (runR gw n S M).1 = E := ⟨_, rfl⟩
    rw [hE] at hne ⊢
    clear h0 hE
    go_wp2
    go_ret
    exact ⟨rfl, Bb.out⟩
end Go.Proofs.Ytjapohjfheielaa
