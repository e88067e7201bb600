/- Walks: StepBack. Conditions: the masses lie in memory. -/
import Derived.Test.YtjapohjfheielaaC7
namespace Go.Proofs.Ytjapohjfheielaa
open Go.RowKit
open Ieee (FinW V dR big double wordOf deepD)
attribute [local irreducible] Ieee.V Ieee.Format.rnd fv Ieee.big Ieee.deepD flW sqW hU rN pk kickAt kickS driftS runR runO stepO chk

/-- a row from a world on -/
def _root_.Go.Value.ownsBy (v : Value) (w w0 : World) (n : Nat) (S : Nat → Int) : Prop := w.ownsRow w0.heap.size 40 7 v n (vals n S)

set_option maxHeartbeats 2000000 in
theorem back_walk (v : Value) (n gw : Nat) (N : Int) (S : Nat → Int) (w : World) (hv : MIn w v n S) (hn : n ≤ 4398046511104) (hsz : n * 56 ≤ 140737488351232) (hgw : gw < 18446744073709551616) (hN : -9223372036854775808 ≤ N ∧ N ≤ 9223372036854775807) :
    Calls Try.prog 5 #[v, .float .f64 gw, .int .i64 N] w fun e w' => e = .returned (.bool true) ∧ Below w.heap.size w w' := by
  have HS := Lib.hid hv
  have HGW := Lib.hid hgw
  obtain ⟨A, ca, rfl⟩ := hv.form
  clear hv hgw
  have HN := Lib.hid hN
  have HF := Lib.hid (fewN_le N)
  have hf1 := HF.out.1
  have hf2 := HF.out.2
  clear hN
  go_enter Try.func5, Try.ntmps5
  go_wp2_with fail
  refine (awake_any _).mono ?_
  rintro e w1 ⟨rfl, hb⟩
  have B1 := Lib.hid hb
  have S1 := Lib.hid (HS.out.below hb)
  clear hb
  have Ea := Lib.hid (own_empty w1)
  have Ca := Lib.hid (S1.out.below ((Below.refl _ _).alloc (Nat.le_refl _) (.cells #[] 40)))
  have ZAa : Hid ((0 + n) * 56 ≤ 140737488355328) := Lib.hid (by omega)
  have ZBa : Hid (w1.heap.size ≤ (w1.alloc (.cells #[] 40)).heap.size) := Lib.hid (by simp)
  go_wp2_with (first | (go_at_call 20; refine (few_any N _ HN.out).mono ?_; rintro e w' ⟨rfl, rfl⟩) | (at_builtin; refine wpList_append_srcM rfl _ _ rfl w1.heap.size 0 _ [] rfl Ea.out _ n S rfl Ca.out ZAa.out ZBa.out ?_))
  intro va wa hown hgr hblk
  have hrow := own_of_row (S := S) (show va.ownsBy wa w1 n S from by simpa [Value.ownsBy] using hown) (by rcases hblk with h | h <;> exact ⟨_, h⟩)
  obtain ⟨ga, cza, rfl, hg, ho, hnc, hcm⟩ := hrow
  have Oa := Lib.hid ho
  have Ba := Lib.hid (B1.out.trans (Below.mono (((Below.refl w1.heap.size w1).alloc (Nat.le_refl _) (.cells #[] 40)).grown hgr (by simp) (by intro k hk; simp [Value.ownBlock] at hk; omega)) B1.out.size))
  have Ka := Lib.hid (show Below w1.heap.size w1 wa from ((Below.refl w1.heap.size w1).alloc (Nat.le_refl _) (.cells #[] 40)).grown hgr (by simp) (by intro k hk; simp [Value.ownBlock] at hk; omega))
  clear hown hgr hblk hg ho hnc hcm Ea Ca ZAa ZBa
  obtain ⟨M, hM⟩ : ∃ M, fewN N = M := ⟨_, rfl⟩
  rw [hM] at hf1 hf2 ⊢
  clear hM HF
  have hrun := runP_any (.slice (some ⟨ga, 0, none⟩) n cza) n gw M S wa Oa.out.min hn HGW.out (by omega)
  go_wp2_with fail
  refine hrun.mono ?_
  rintro e wb ⟨hb, h⟩
  have Bb := Lib.hid (Ba.out.trans (hb.mono Ba.out.size))
  have Sb := Lib.hid ((S1.out.below Ka.out).below hb)
  clear hb hrun
  rcases h with ⟨h0, gb, cb, rfl, _, ho, _, _⟩ | ⟨h0, rfl⟩
  · have Ob := Lib.hid ho
    have H0 := Lib.hid h0
    have hrun2 := runP_any (.slice (some ⟨gb, 0, none⟩) n cb) n gw (-M) (runR gw n S M).2 wb Ob.out.min hn HGW.out (by omega)
    have HR2 := Lib.hid hrun2
    clear ho h0 hrun2
    go_wp2_with fail
    refine HR2.out.mono ?_
    rintro e wc ⟨hb, h⟩
    rw [show runR gw n (runR gw n S M).2 (-M) = (0, S) from run_back H0.out] at h
    have Bc := Lib.hid (Bb.out.trans (hb.mono Bb.out.size))
    have Sc := Lib.hid (Sb.out.below hb)
    clear hb HR2
    rcases h with ⟨_, gc, cc, rfl, _, ho, _, _⟩ | ⟨h0, _⟩
    · have hsame := same_any (.slice (some ⟨gc, 0, none⟩) n cc) _ n S S wc ho.min Sc.out (fun _ _ => rfl) (by omega)
      have HSM := Lib.hid hsame
      clear ho hsame
      go_wp2_with (first | (go_at_call 23; refine HSM.out.mono ?_; rintro e wd ⟨rfl, ⟨md, rfl⟩⟩))
      go_ret
      exact ⟨rfl, below_drw Bc.out _⟩
    · exact absurd rfl h0
  · have hne : ((runR gw n S M).1 != 0) = true := by rw [bne_iff_ne]; exact h0
    obtain ⟨E, hE⟩ : ∃ E, (runR gw n S M).1 = E := ⟨_, rfl⟩
    rw [hE] at hne ⊢
    clear h0 hE
    go_wp2
    go_ret
    exact ⟨rfl, Bb.out⟩
end Go.Proofs.Ytjapohjfheielaa
