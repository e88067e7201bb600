/- Walks: StepTells. Conditions: the masses lie in memory. -/
import Derived.Test.YtjapohjfheielaaC8
import Derived.Test.YtjapohjfheielaaC10
namespace Go.Proofs.Ytjapohjfheielaa
open Go.RowKit
open Ieee (FinW V dR big double wordOf deepD)
attribute [local irreducible] Ieee.V Ieee.Format.rnd fv Ieee.big Ieee.deepD flW sqW hU rN pk kickAt kickS driftS runR runO stepO chk

theorem zeros_lie (w : World) : MIn (w.alloc (.cells #[.int .i64 0, .int .i64 0, .int .i64 0, .int .i64 0, .int .i64 0, .int .i64 0, .int .i64 0, .int .i64 0, .int .i64 0, .int .i64 0, .int .i64 0, .int .i64 0, .int .i64 0, .int .i64 0] 40)) (.slice (some ⟨w.heap.size, 0, none⟩) 2 2) 2 (fun _ => 0) := by
  refine Or.inr ⟨_, _, rfl, fun _ => ⟨_, 0, rfl, fun j hj => ?_⟩⟩
  rw [Nat.zero_add, cell_of_row _ _ _ _ _ (0, 0) (heap_alloc_new w _)]
  have : j = 0 ∨ j = 1 ∨ j = 2 ∨ j = 3 ∨ j = 4 ∨ j = 5 ∨ j = 6 ∨ j = 7 ∨ j = 8 ∨ j = 9 ∨ j = 10 ∨ j = 11 ∨ j = 12 ∨ j = 13 := by omega
  rcases this with rfl | rfl | rfl | rfl | rfl | rfl | rfl | rfl | rfl | rfl | rfl | rfl | rfl | rfl <;> rfl
theorem own_len {w : World} {base n : Nat} {v : Value} {xs : List Value} (h : w.ownsRow base 40 7 v n xs) : ∃ A cap, v = .slice A n cap := by
  rcases h.2 with ⟨rfl, rfl⟩ | ⟨g, cap, cur, rfl, _⟩
  · exact ⟨_, _, rfl⟩
  · exact ⟨_, _, rfl⟩
theorem Own.far {w : World} {g n cap : Nat} {S : Nat → Int} (h : Own w g n cap S) {b k : Nat} (hne : g ≠ b) (v : Value) : Own (w.setCell ⟨b, k, none⟩ v) g n cap S := by
  obtain ⟨cur, h1, h2, h3⟩ := h
  exact ⟨cur, by rw [Below.heap_setCell _ _ _ _ hne]; exact h1, h2, h3⟩
theorem Own.grown {w w' : World} {g n cap : Nat} {S : Nat → Int} {row : Option Nat} (h : Own w g n cap S) (hg : w.grownBy w' row) (hne : some g ≠ row) : Own w' g n cap S := by
  have hl := h.lt
  obtain ⟨cur, h1, h2, h3⟩ := h
  exact ⟨cur, by rw [hg.block g hl hne]; exact h1, h2, h3⟩


set_option maxRecDepth 100000 in
set_option maxHeartbeats 4000000 in
theorem tells_walk (v : Value) (n gw : Nat) (N : Int) (S : Nat → Int) (w : World) (hv : MIn w v n S) (hn : n ≤ 4398046511104) (hsz : n * 56 ≤ 140737488351232) (hgw : gw < 18446744073709551616) (hN : -9223372036854775808 ≤ N ∧ N ≤ 9223372036854775807) (hcap : ∀ A n' c, v = .slice A n' c → n' ≤ c ∧ c ≤ maxLen) :
    Calls Try.prog 4 #[v, .float .f64 gw, .int .i64 N] w fun e w' => e = .returned (.bool true) ∧ Below w.heap.size w w' := by
  have HS := Lib.hid hv
  have HGW := Lib.hid hgw
  obtain ⟨A, ca, rfl⟩ := hv.form
  clear hv hgw
  have HN := Lib.hid hN
  have HF := Lib.hid (fewN_le N)
  have hf1 := HF.out.1
  have hf2 := HF.out.2
  obtain ⟨hN1, hN2⟩ := hN
  by_cases hs1 : -4000 < N
  · by_cases hs2 : N < 4000
    · obtain ⟨M, hM⟩ : ∃ M, fewN N = M := ⟨_, rfl⟩
      have hfa := fun u => few_any N u HN.out
      rw [hM] at hf1 hf2 hfa
      have HFA := Lib.hid hfa
      clear hM HF hfa hcap
      go_enter Try.func4, Try.ntmps4
      go_wp2_with fail
      refine (awake_any _).mono ?_
      rintro e w1 ⟨rfl, hb⟩
      have B1 := Lib.hid hb
      have S1 := Lib.hid (HS.out.below hb)
      clear hb
      have hc1 := checkP_any (.slice A n ca) n S w1 S1.out hn
      have hc2 := checkR_any (.slice A n ca) n S w1 S1.out hn
      obtain ⟨C, hC⟩ : ∃ C, chk n S = C := ⟨_, rfl⟩
      rw [hC] at hc1 hc2
      have HC1 := Lib.hid hc1
      have HC2 := Lib.hid hc2
      clear hc1 hc2 hC
      go_wp2_with (first | (go_at_call 18; refine HC1.out.mono ?_; rintro e w' ⟨rfl, rfl⟩) | (go_at_call 19; refine HC2.out.mono ?_; rintro e w' ⟨rfl, rfl⟩) | (go_at_call 20; refine (HFA.out _).mono ?_; rintro e w' ⟨rfl, rfl⟩))
      have hro := roomy_any (.slice A n ca) n S w1 S1.out hsz
      refine hro.mono ?_
      rintro e wr ⟨gr, cr, rfl, hor, hnr, hcr, hgr, hb⟩
      have HOR := Lib.hid hor
      have HGR := Lib.hid (And.intro hnr (And.intro hcr hgr))
      have Br := Lib.hid (B1.out.trans (hb.mono B1.out.size))
      have Sr := Lib.hid (S1.out.below hb)
      have HMR : Hid (MIn wr (.slice (some ⟨gr, 0, none⟩) n cr) n S) := Lib.hid (Or.inr ⟨_, _, rfl, fun _ => ⟨gr, 0, rfl, fun j hj => by rw [← marked_low (S := S) hj]; exact hor.lies j (by omega)⟩⟩)
      clear hor hnr hcr hgr hb hro
      have hrun := runP_any (.slice (some ⟨gr, 0, none⟩) n cr) n gw (M) S wr HMR.out hn HGW.out (by omega)
      go_wp2_with fail
      refine hrun.mono ?_
      rintro e wa ⟨hb, h⟩
      have Ba := Lib.hid (Br.out.trans (hb.mono Br.out.size))
      have Sa := Lib.hid (Sr.out.below hb)
      have HORa := Lib.hid (HOR.out.below hb)
      have HZ : Hid (gr < wr.heap.size) := Lib.hid HOR.out.lt
      clear hb hrun
      have hrun2 := runR_any (.slice A n ca) n gw (M) S wa Sa.out hn HGW.out (by omega)
      have HR2 := Lib.hid hrun2
      clear hrun2
      rcases h with ⟨h0, ga, cza, rfl, hga, ho, hnc, hcm⟩ | ⟨h0, rfl⟩
      · have Oa := Lib.hid ho
        have H0 := Lib.hid h0
        have hne : gr ≠ ga := by have := HZ.out; omega
        have HNE := Lib.hid (And.intro hne (And.intro hnc (And.intro hcm (Nat.le_trans Br.out.size hga))))
        have H8 := Lib.hid (chk_zero.1 (run_ok h0).2).1
        clear ho h0 hga hne hnc hcm
        go_wp2_with fail
        refine HR2.out.mono ?_
        rintro e wb ⟨hb, h⟩
        have Bb := Lib.hid (Ba.out.trans (hb.mono Ba.out.size))
        have Sb := Lib.hid (Sa.out.below hb)
        have HORb := Lib.hid (HORa.out.below hb)
        have Oab := Lib.hid (Oa.out.below hb)
        clear hb HR2
        rcases h with ⟨h1, gb, czb, rfl, _, hob, _, _⟩ | ⟨h1, rfl⟩
        · have hsame := same_any (.slice (some ⟨ga, 0, none⟩) n cza) (.slice (some ⟨gb, 0, none⟩) n czb) n _ _ wb Oab.out.min hob.min (fun _ _ => rfl) (by omega)
          have HSM := Lib.hid hsame
          have hkept := fun m => kept_any (.slice A n ca) gr n cr S (wb.drewN m) (Sb.out.drewN m) (HORb.out.drewN m) HGR.out.1 HGR.out.2.1 hsz
          have HKP := Lib.hid hkept
          clear hob h1 hsame hkept
          go_wp2_with (first | (go_at_call 23; refine HSM.out.mono ?_; rintro e wf ⟨rfl, ⟨md, rfl⟩⟩) | (go_at_call 17; refine (HKP.out _).mono ?_; rintro e wf ⟨rfl, ⟨mk, rfl⟩⟩))
          go_loopw [12] (fun vi wr => ∃ i : Nat, i ≤ n ∧ vi = .int .i64 i ∧ (∃ T, Own wr ga n cza T) ∧ Own wr gr (n + 2) cr (marked n S) ∧ Below w.heap.size w wr) (fun vi _ => n - (intOf vi).toNat)
          case atStart => exact ⟨0, Nat.zero_le _, rfl, ⟨_, Oab.out⟩, HORb.out, below_drw Bb.out _⟩
          case round =>
            obtain ⟨i, hi, rfl, ⟨T, hot⟩, hor, hbw⟩ := hrel
            have OT := Lib.hid hot
            have OR := Lib.hid hor
            have BW := Lib.hid hbw
            clear hot hor hbw
            by_cases hin : i < n
            · have cm := OT.out.lies (i * 7) (by omega)
              have fm := OT.out.free (i * 7)
              rw [Nat.zero_add] at cm
              go_wp2
              go_roundw
              case rel => exact ⟨i + 1, by omega, by go_num, ⟨_, OT.out.set (i * 7) (-1)⟩, OR.out.far HNE.out.1 _, BW.out.setCell (Nat.le_trans (by simp) HNE.out.2.2.2) _⟩
              case measure => first | (simp [intOf]; done) | (simp [intOf]; omega)
            · have hin2 : i = n := by omega
              subst hin2
              have HRW := Lib.hid (row_of_own OT.out (Nat.le_refl _) HNE.out.2.1 HNE.out.2.2.1)
              have ZA : Hid ((i + 2) * 56 ≤ 140737488355328) := Lib.hid (by omega)
              have ZB : Hid (∀ ob : Obj, ga ≤ (wr.alloc ob).heap.size) := Lib.hid (fun ob => by have := OT.out.lt; simp; omega)
              have hz1 := fun u => zeros_lie u
              have HZ1 := Lib.hid hz1
              clear hz1
              go_wp2_with (first | (at_builtin; refine wpList_append_srcM rfl _ _ rfl ga i _ _ rfl (HRW.out.alloc _) _ 2 (fun _ => 0) rfl (HZ1.out wr) ZA.out (ZB.out _) ?_))
              intro vc wc hown hgrw hblk
              obtain ⟨Ac, cc, rfl⟩ := own_len hown
              have BC := Lib.hid ((BW.out.alloc BW.out.size _).grown hgrw (Nat.le_trans BW.out.size (by simp)) (by
                intro q hq
                simp [Value.ownBlock] at hq
                rw [← hq]; exact HNE.out.2.2.2))
              have OC := Lib.hid ((OR.out.below ((Below.refl _ _).alloc (Nat.le_refl _) _)).grown hgrw (by
                intro e
                simp [Value.ownBlock] at e
                exact HNE.out.1 e))
              have SC := Lib.hid (HS.out.below BC.out)
              have hkept := kept_any (.slice A i ca) gr i cr S wc SC.out OC.out HGR.out.1 HGR.out.2.1 hsz
              have HKP2 := Lib.hid hkept
              clear hown hgrw hblk hkept ZA ZB
              go_wp2_with (first | (go_at_call 17; refine HKP2.out.mono ?_; rintro e wf ⟨rfl, ⟨mk2, rfl⟩⟩))
              go_ret
              exact ⟨rfl, below_drw BC.out _⟩
        · exact absurd H0.out h1
      · have H0 := Lib.hid h0
        obtain ⟨E, hE⟩ : ∃ E, (runR gw n S (M)).1 = E := ⟨_, rfl⟩
        rw [hE]
        have HE := Lib.hid hE
        clear h0 hE
        go_wp2_with fail
        refine HR2.out.mono ?_
        rintro e wb ⟨hb, h⟩
        have Bb := Lib.hid (Ba.out.trans (hb.mono Ba.out.size))
        have Sb := Lib.hid (Sa.out.below hb)
        have HORb := Lib.hid (HORa.out.below hb)
        clear hb HR2
        rcases h with ⟨h1, gb, czb, rfl, _, hob, _, _⟩ | ⟨h1, rfl⟩
        · exact absurd h1 H0.out
        · rw [HE.out]
          have hsame := same_any (.slice none 0 0) (.slice none 0 0) 0 S S wb (Or.inl ⟨rfl, rfl⟩) (Or.inl ⟨rfl, rfl⟩) (fun _ _ => rfl) (by omega)
          have HSM := Lib.hid hsame
          have hkept := fun m => kept_any (.slice A n ca) gr n cr S (wb.drewN m) (Sb.out.drewN m) (HORb.out.drewN m) HGR.out.1 HGR.out.2.1 hsz
          have HKP := Lib.hid hkept
          clear h1 hsame hkept
          go_wp2_with (first | (go_at_call 23; refine HSM.out.mono ?_; rintro e wf ⟨rfl, ⟨md, rfl⟩⟩) | (go_at_call 17; refine (HKP.out _).mono ?_; rintro e wk ⟨rfl, HDK⟩))
          have HDK := Lib.hid HDK
          have BK : Hid (Below w.heap.size w wk) := Lib.hid (by obtain ⟨m, rfl⟩ := HDK.out; exact below_drw (below_drw Bb.out _) _)
          have SK : Hid (MIn wk (.slice A n ca) n S) := Lib.hid (by obtain ⟨m, rfl⟩ := HDK.out; exact Sb.out)
          have OK : Hid (Own wk gr (n + 2) cr (marked n S)) := Lib.hid (by obtain ⟨m, rfl⟩ := HDK.out; exact HORb.out)
          have HZ1 := Lib.hid (fun u => zeros_lie u)
          have ZA : Hid ((0 + 2) * 56 ≤ 140737488355328) := Lib.hid (by omega)
          have ZB : Hid (∀ ob : Obj, wk.heap.size ≤ (wk.alloc ob).heap.size) := Lib.hid (fun ob => by simp)
          clear HDK
          refine wp_loop_rounds 1 ?_
          rw [rounds_succ]
          go_wp2_with (first | (at_builtin; refine wpList_append_srcM rfl _ _ rfl wk.heap.size 0 _ [] rfl (World.ownsRow_nil _ _ _ _) _ 2 (fun _ => 0) rfl (HZ1.out wk) ZA.out (ZB.out _) ?_))
          intro vc wc hown hgrw hblk
          obtain ⟨Ac, cc, rfl⟩ := own_len hown
          have BC := Lib.hid ((BK.out.alloc BK.out.size _).grown hgrw (Nat.le_trans BK.out.size (by simp)) (by
            intro q hq
            simp [Value.ownBlock] at hq))
          have OC := Lib.hid ((OK.out.below ((Below.refl _ _).alloc (Nat.le_refl _) _)).grown hgrw (by
            intro e
            simp [Value.ownBlock] at e))
          have SC := Lib.hid (HS.out.below BC.out)
          have hkept := kept_any (.slice A n ca) gr n cr S wc SC.out OC.out HGR.out.1 HGR.out.2.1 hsz
          have HKP2 := Lib.hid hkept
          clear hown hgrw hblk hkept ZA ZB
          go_wp2_with (first | (go_at_call 17; refine HKP2.out.mono ?_; rintro e wf ⟨rfl, ⟨mk2, rfl⟩⟩))
          go_ret
          exact ⟨rfl, below_drw BC.out _⟩
    · clear HF hf1 hf2
      by_cases hs3 : N ≤ 4096
      · by_cases hs4 : 2 < n
        · obtain ⟨g0, o0, rfl, hl0⟩ := HS.out.cell (i := 0) (by omega)
          have HS2 : Hid (MIn w (.slice (some ⟨g0, o0, none⟩) 2 ca) 2 S) := Lib.hid (Or.inr ⟨_, _, rfl, fun _ => ⟨g0, o0, rfl, fun j hj => hl0 j (by omega)⟩⟩)
          have hca := (hcap _ _ _ rfl).1
          have hcb := (hcap _ _ _ rfl).2
          unfold maxLen at hcb
          have hn2 : 2 ≤ 4398046511104 := by omega
          have hsz2 : 2 * 56 ≤ 140737488351232 := by omega
          clear hl0
          clear hcap
          go_enter Try.func4, Try.ntmps4
          go_wp2_with fail
          refine (awake_any _).mono ?_
          rintro e w1 ⟨rfl, hb⟩
          have B1 := Lib.hid hb
          have S1 := Lib.hid (HS.out.below hb)
          have S12 := Lib.hid (HS2.out.below hb)
          clear hb
          have hc1 := checkP_any (.slice (some ⟨g0, o0, none⟩) n ca) n S w1 S1.out hn
          have hc2 := checkR_any (.slice (some ⟨g0, o0, none⟩) n ca) n S w1 S1.out hn
          obtain ⟨C, hC⟩ : ∃ C, chk n S = C := ⟨_, rfl⟩
          rw [hC] at hc1 hc2
          have HC1 := Lib.hid hc1
          have HC2 := Lib.hid hc2
          clear hc1 hc2 hC
          go_wp2_with (first | (go_at_call 18; refine HC1.out.mono ?_; rintro e w' ⟨rfl, rfl⟩) | (go_at_call 19; refine HC2.out.mono ?_; rintro e w' ⟨rfl, rfl⟩))
          have hro := roomy_any (.slice (some ⟨g0, o0, none⟩) 2 ca) 2 S w1 S12.out hsz2
          refine hro.mono ?_
          rintro e wr ⟨gr, cr, rfl, hor, hnr, hcr, hgr, hb⟩
          have HOR := Lib.hid hor
          have HGR := Lib.hid (And.intro hnr (And.intro hcr hgr))
          have Br := Lib.hid (B1.out.trans (hb.mono B1.out.size))
          have Sr := Lib.hid (S12.out.below hb)
          have HMR : Hid (MIn wr (.slice (some ⟨gr, 0, none⟩) 2 cr) 2 S) := Lib.hid (Or.inr ⟨_, _, rfl, fun _ => ⟨gr, 0, rfl, fun j hj => by rw [← marked_low (S := S) hj]; exact hor.lies j (by omega)⟩⟩)
          clear hor hnr hcr hgr hb hro
          have hrun := runP_any (.slice (some ⟨gr, 0, none⟩) 2 cr) 2 gw (N) S wr HMR.out hn2 HGW.out (by omega)
          go_wp2_with fail
          refine hrun.mono ?_
          rintro e wa ⟨hb, h⟩
          have Ba := Lib.hid (Br.out.trans (hb.mono Br.out.size))
          have Sa := Lib.hid (Sr.out.below hb)
          have HORa := Lib.hid (HOR.out.below hb)
          have HZ : Hid (gr < wr.heap.size) := Lib.hid HOR.out.lt
          clear hb hrun
          have hrun2 := runR_any (.slice (some ⟨g0, o0, none⟩) 2 ca) 2 gw (N) S wa Sa.out hn2 HGW.out (by omega)
          have HR2 := Lib.hid hrun2
          clear hrun2
          rcases h with ⟨h0, ga, cza, rfl, hga, ho, hnc, hcm⟩ | ⟨h0, rfl⟩
          · have Oa := Lib.hid ho
            have H0 := Lib.hid h0
            have hne : gr ≠ ga := by have := HZ.out; omega
            have HNE := Lib.hid (And.intro hne (And.intro hnc (And.intro hcm (Nat.le_trans Br.out.size hga))))
            have H8 := Lib.hid (chk_zero.1 (run_ok h0).2).1
            clear ho h0 hga hne hnc hcm
            go_wp2_with fail
            refine HR2.out.mono ?_
            rintro e wb ⟨hb, h⟩
            have Bb := Lib.hid (Ba.out.trans (hb.mono Ba.out.size))
            have Sb := Lib.hid (Sa.out.below hb)
            have HORb := Lib.hid (HORa.out.below hb)
            have Oab := Lib.hid (Oa.out.below hb)
            clear hb HR2
            rcases h with ⟨h1, gb, czb, rfl, _, hob, _, _⟩ | ⟨h1, rfl⟩
            · have hsame := same_any (.slice (some ⟨ga, 0, none⟩) 2 cza) (.slice (some ⟨gb, 0, none⟩) 2 czb) 2 _ _ wb Oab.out.min hob.min (fun _ _ => rfl) (by omega)
              have HSM := Lib.hid hsame
              have hkept := fun m => kept_any (.slice (some ⟨g0, o0, none⟩) 2 ca) gr 2 cr S (wb.drewN m) (Sb.out.drewN m) (HORb.out.drewN m) HGR.out.1 HGR.out.2.1 hsz2
              have HKP := Lib.hid hkept
              clear hob h1 hsame hkept
              go_wp2_with (first | (go_at_call 23; refine HSM.out.mono ?_; rintro e wf ⟨rfl, ⟨md, rfl⟩⟩) | (go_at_call 17; refine (HKP.out _).mono ?_; rintro e wf ⟨rfl, ⟨mk, rfl⟩⟩))
              go_loopw [12] (fun vi wr => ∃ i : Nat, i ≤ 2 ∧ vi = .int .i64 i ∧ (∃ T, Own wr ga 2 cza T) ∧ Own wr gr (2 + 2) cr (marked 2 S) ∧ Below w.heap.size w wr) (fun vi _ => 2 - (intOf vi).toNat)
              case atStart => exact ⟨0, Nat.zero_le _, rfl, ⟨_, Oab.out⟩, HORb.out, below_drw Bb.out _⟩
              case round =>
                obtain ⟨i, hi, rfl, ⟨T, hot⟩, hor, hbw⟩ := hrel
                have OT := Lib.hid hot
                have OR := Lib.hid hor
                have BW := Lib.hid hbw
                clear hot hor hbw
                by_cases hin : i < 2
                · have cm := OT.out.lies (i * 7) (by omega)
                  have fm := OT.out.free (i * 7)
                  rw [Nat.zero_add] at cm
                  go_wp2
                  go_roundw
                  case rel => exact ⟨i + 1, by omega, by go_num, ⟨_, OT.out.set (i * 7) (-1)⟩, OR.out.far HNE.out.1 _, BW.out.setCell (Nat.le_trans (by simp) HNE.out.2.2.2) _⟩
                  case measure => first | (simp [intOf]; done) | (simp [intOf]; omega)
                · have hin2 : i = 2 := by omega
                  subst hin2
                  have HRW := Lib.hid (row_of_own OT.out (Nat.le_refl _) HNE.out.2.1 HNE.out.2.2.1)
                  have ZA : Hid ((2 + 2) * 56 ≤ 140737488355328) := Lib.hid (by omega)
                  have ZB : Hid (∀ ob : Obj, ga ≤ (wr.alloc ob).heap.size) := Lib.hid (fun ob => by have := OT.out.lt; simp; omega)
                  have hz1 := fun u => zeros_lie u
                  have HZ1 := Lib.hid hz1
                  clear hz1
                  go_wp2_with (first | (at_builtin; refine wpList_append_srcM rfl _ _ rfl ga 2 _ _ rfl (HRW.out.alloc _) _ 2 (fun _ => 0) rfl (HZ1.out wr) ZA.out (ZB.out _) ?_))
                  intro vc wc hown hgrw hblk
                  obtain ⟨Ac, cc, rfl⟩ := own_len hown
                  have BC := Lib.hid ((BW.out.alloc BW.out.size _).grown hgrw (Nat.le_trans BW.out.size (by simp)) (by
                    intro q hq
                    simp [Value.ownBlock] at hq
                    rw [← hq]; exact HNE.out.2.2.2))
                  have OC := Lib.hid ((OR.out.below ((Below.refl _ _).alloc (Nat.le_refl _) _)).grown hgrw (by
                    intro e
                    simp [Value.ownBlock] at e
                    exact HNE.out.1 e))
                  have SC := Lib.hid (HS2.out.below BC.out)
                  have hkept := kept_any (.slice (some ⟨g0, o0, none⟩) 2 ca) gr 2 cr S wc SC.out OC.out HGR.out.1 HGR.out.2.1 hsz2
                  have HKP2 := Lib.hid hkept
                  clear hown hgrw hblk hkept ZA ZB
                  go_wp2_with (first | (go_at_call 17; refine HKP2.out.mono ?_; rintro e wf ⟨rfl, ⟨mk2, rfl⟩⟩))
                  go_ret
                  exact ⟨rfl, below_drw BC.out _⟩
            · exact absurd H0.out h1
          · have H0 := Lib.hid h0
            obtain ⟨E, hE⟩ : ∃ E, (runR gw 2 S (N)).1 = E := ⟨_, rfl⟩
            rw [hE]
            have HE := Lib.hid hE
            clear h0 hE
            go_wp2_with fail
            refine HR2.out.mono ?_
            rintro e wb ⟨hb, h⟩
            have Bb := Lib.hid (Ba.out.trans (hb.mono Ba.out.size))
            have Sb := Lib.hid (Sa.out.below hb)
            have HORb := Lib.hid (HORa.out.below hb)
            clear hb HR2
            rcases h with ⟨h1, gb, czb, rfl, _, hob, _, _⟩ | ⟨h1, rfl⟩
            · exact absurd h1 H0.out
            · rw [HE.out]
              have hsame := same_any (.slice none 0 0) (.slice none 0 0) 0 S S wb (Or.inl ⟨rfl, rfl⟩) (Or.inl ⟨rfl, rfl⟩) (fun _ _ => rfl) (by omega)
              have HSM := Lib.hid hsame
              have hkept := fun m => kept_any (.slice (some ⟨g0, o0, none⟩) 2 ca) gr 2 cr S (wb.drewN m) (Sb.out.drewN m) (HORb.out.drewN m) HGR.out.1 HGR.out.2.1 hsz2
              have HKP := Lib.hid hkept
              clear h1 hsame hkept
              go_wp2_with (first | (go_at_call 23; refine HSM.out.mono ?_; rintro e wf ⟨rfl, ⟨md, rfl⟩⟩) | (go_at_call 17; refine (HKP.out _).mono ?_; rintro e wk ⟨rfl, HDK⟩))
              have HDK := Lib.hid HDK
              have BK : Hid (Below w.heap.size w wk) := Lib.hid (by obtain ⟨m, rfl⟩ := HDK.out; exact below_drw (below_drw Bb.out _) _)
              have SK : Hid (MIn wk (.slice (some ⟨g0, o0, none⟩) 2 ca) 2 S) := Lib.hid (by obtain ⟨m, rfl⟩ := HDK.out; exact Sb.out)
              have OK : Hid (Own wk gr (2 + 2) cr (marked 2 S)) := Lib.hid (by obtain ⟨m, rfl⟩ := HDK.out; exact HORb.out)
              have HZ1 := Lib.hid (fun u => zeros_lie u)
              have ZA : Hid ((0 + 2) * 56 ≤ 140737488355328) := Lib.hid (by omega)
              have ZB : Hid (∀ ob : Obj, wk.heap.size ≤ (wk.alloc ob).heap.size) := Lib.hid (fun ob => by simp)
              clear HDK
              refine wp_loop_rounds 1 ?_
              rw [rounds_succ]
              go_wp2_with (first | (at_builtin; refine wpList_append_srcM rfl _ _ rfl wk.heap.size 0 _ [] rfl (World.ownsRow_nil _ _ _ _) _ 2 (fun _ => 0) rfl (HZ1.out wk) ZA.out (ZB.out _) ?_))
              intro vc wc hown hgrw hblk
              obtain ⟨Ac, cc, rfl⟩ := own_len hown
              have BC := Lib.hid ((BK.out.alloc BK.out.size _).grown hgrw (Nat.le_trans BK.out.size (by simp)) (by
                intro q hq
                simp [Value.ownBlock] at hq))
              have OC := Lib.hid ((OK.out.below ((Below.refl _ _).alloc (Nat.le_refl _) _)).grown hgrw (by
                intro e
                simp [Value.ownBlock] at e))
              have SC := Lib.hid (HS2.out.below BC.out)
              have hkept := kept_any (.slice (some ⟨g0, o0, none⟩) 2 ca) gr 2 cr S wc SC.out OC.out HGR.out.1 HGR.out.2.1 hsz2
              have HKP2 := Lib.hid hkept
              clear hown hgrw hblk hkept ZA ZB
              go_wp2_with (first | (go_at_call 17; refine HKP2.out.mono ?_; rintro e wf ⟨rfl, ⟨mk2, rfl⟩⟩))
              go_ret
              exact ⟨rfl, below_drw BC.out _⟩
        · clear hcap
          go_enter Try.func4, Try.ntmps4
          go_wp2_with fail
          refine (awake_any _).mono ?_
          rintro e w1 ⟨rfl, hb⟩
          have B1 := Lib.hid hb
          have S1 := Lib.hid (HS.out.below hb)
          clear hb
          have hc1 := checkP_any (.slice A n ca) n S w1 S1.out hn
          have hc2 := checkR_any (.slice A n ca) n S w1 S1.out hn
          obtain ⟨C, hC⟩ : ∃ C, chk n S = C := ⟨_, rfl⟩
          rw [hC] at hc1 hc2
          have HC1 := Lib.hid hc1
          have HC2 := Lib.hid hc2
          clear hc1 hc2 hC
          go_wp2_with (first | (go_at_call 18; refine HC1.out.mono ?_; rintro e w' ⟨rfl, rfl⟩) | (go_at_call 19; refine HC2.out.mono ?_; rintro e w' ⟨rfl, rfl⟩))
          have hro := roomy_any (.slice A n ca) n S w1 S1.out hsz
          refine hro.mono ?_
          rintro e wr ⟨gr, cr, rfl, hor, hnr, hcr, hgr, hb⟩
          have HOR := Lib.hid hor
          have HGR := Lib.hid (And.intro hnr (And.intro hcr hgr))
          have Br := Lib.hid (B1.out.trans (hb.mono B1.out.size))
          have Sr := Lib.hid (S1.out.below hb)
          have HMR : Hid (MIn wr (.slice (some ⟨gr, 0, none⟩) n cr) n S) := Lib.hid (Or.inr ⟨_, _, rfl, fun _ => ⟨gr, 0, rfl, fun j hj => by rw [← marked_low (S := S) hj]; exact hor.lies j (by omega)⟩⟩)
          clear hor hnr hcr hgr hb hro
          have hrun := runP_any (.slice (some ⟨gr, 0, none⟩) n cr) n gw (N) S wr HMR.out hn HGW.out (by omega)
          go_wp2_with fail
          refine hrun.mono ?_
          rintro e wa ⟨hb, h⟩
          have Ba := Lib.hid (Br.out.trans (hb.mono Br.out.size))
          have Sa := Lib.hid (Sr.out.below hb)
          have HORa := Lib.hid (HOR.out.below hb)
          have HZ : Hid (gr < wr.heap.size) := Lib.hid HOR.out.lt
          clear hb hrun
          have hrun2 := runR_any (.slice A n ca) n gw (N) S wa Sa.out hn HGW.out (by omega)
          have HR2 := Lib.hid hrun2
          clear hrun2
          rcases h with ⟨h0, ga, cza, rfl, hga, ho, hnc, hcm⟩ | ⟨h0, rfl⟩
          · have Oa := Lib.hid ho
            have H0 := Lib.hid h0
            have hne : gr ≠ ga := by have := HZ.out; omega
            have HNE := Lib.hid (And.intro hne (And.intro hnc (And.intro hcm (Nat.le_trans Br.out.size hga))))
            have H8 := Lib.hid (chk_zero.1 (run_ok h0).2).1
            clear ho h0 hga hne hnc hcm
            go_wp2_with fail
            refine HR2.out.mono ?_
            rintro e wb ⟨hb, h⟩
            have Bb := Lib.hid (Ba.out.trans (hb.mono Ba.out.size))
            have Sb := Lib.hid (Sa.out.below hb)
            have HORb := Lib.hid (HORa.out.below hb)
            have Oab := Lib.hid (Oa.out.below hb)
            clear hb HR2
            rcases h with ⟨h1, gb, czb, rfl, _, hob, _, _⟩ | ⟨h1, rfl⟩
            · have hsame := same_any (.slice (some ⟨ga, 0, none⟩) n cza) (.slice (some ⟨gb, 0, none⟩) n czb) n _ _ wb Oab.out.min hob.min (fun _ _ => rfl) (by omega)
              have HSM := Lib.hid hsame
              have hkept := fun m => kept_any (.slice A n ca) gr n cr S (wb.drewN m) (Sb.out.drewN m) (HORb.out.drewN m) HGR.out.1 HGR.out.2.1 hsz
              have HKP := Lib.hid hkept
              clear hob h1 hsame hkept
              go_wp2_with (first | (go_at_call 23; refine HSM.out.mono ?_; rintro e wf ⟨rfl, ⟨md, rfl⟩⟩) | (go_at_call 17; refine (HKP.out _).mono ?_; rintro e wf ⟨rfl, ⟨mk, rfl⟩⟩))
              go_loopw [12] (fun vi wr => ∃ i : Nat, i ≤ n ∧ vi = .int .i64 i ∧ (∃ T, Own wr ga n cza T) ∧ Own wr gr (n + 2) cr (marked n S) ∧ Below w.heap.size w wr) (fun vi _ => n - (intOf vi).toNat)
              case atStart => exact ⟨0, Nat.zero_le _, rfl, ⟨_, Oab.out⟩, HORb.out, below_drw Bb.out _⟩
              case round =>
                obtain ⟨i, hi, rfl, ⟨T, hot⟩, hor, hbw⟩ := hrel
                have OT := Lib.hid hot
                have OR := Lib.hid hor
                have BW := Lib.hid hbw
                clear hot hor hbw
                by_cases hin : i < n
                · have cm := OT.out.lies (i * 7) (by omega)
                  have fm := OT.out.free (i * 7)
                  rw [Nat.zero_add] at cm
                  go_wp2
                  go_roundw
                  case rel => exact ⟨i + 1, by omega, by go_num, ⟨_, OT.out.set (i * 7) (-1)⟩, OR.out.far HNE.out.1 _, BW.out.setCell (Nat.le_trans (by simp) HNE.out.2.2.2) _⟩
                  case measure => first | (simp [intOf]; done) | (simp [intOf]; omega)
                · have hin2 : i = n := by omega
                  subst hin2
                  have HRW := Lib.hid (row_of_own OT.out (Nat.le_refl _) HNE.out.2.1 HNE.out.2.2.1)
                  have ZA : Hid ((i + 2) * 56 ≤ 140737488355328) := Lib.hid (by omega)
                  have ZB : Hid (∀ ob : Obj, ga ≤ (wr.alloc ob).heap.size) := Lib.hid (fun ob => by have := OT.out.lt; simp; omega)
                  have hz1 := fun u => zeros_lie u
                  have HZ1 := Lib.hid hz1
                  clear hz1
                  go_wp2_with (first | (at_builtin; refine wpList_append_srcM rfl _ _ rfl ga i _ _ rfl (HRW.out.alloc _) _ 2 (fun _ => 0) rfl (HZ1.out wr) ZA.out (ZB.out _) ?_))
                  intro vc wc hown hgrw hblk
                  obtain ⟨Ac, cc, rfl⟩ := own_len hown
                  have BC := Lib.hid ((BW.out.alloc BW.out.size _).grown hgrw (Nat.le_trans BW.out.size (by simp)) (by
                    intro q hq
                    simp [Value.ownBlock] at hq
                    rw [← hq]; exact HNE.out.2.2.2))
                  have OC := Lib.hid ((OR.out.below ((Below.refl _ _).alloc (Nat.le_refl _) _)).grown hgrw (by
                    intro e
                    simp [Value.ownBlock] at e
                    exact HNE.out.1 e))
                  have SC := Lib.hid (HS.out.below BC.out)
                  have hkept := kept_any (.slice A i ca) gr i cr S wc SC.out OC.out HGR.out.1 HGR.out.2.1 hsz
                  have HKP2 := Lib.hid hkept
                  clear hown hgrw hblk hkept ZA ZB
                  go_wp2_with (first | (go_at_call 17; refine HKP2.out.mono ?_; rintro e wf ⟨rfl, ⟨mk2, rfl⟩⟩))
                  go_ret
                  exact ⟨rfl, below_drw BC.out _⟩
            · exact absurd H0.out h1
          · have H0 := Lib.hid h0
            obtain ⟨E, hE⟩ : ∃ E, (runR gw n S (N)).1 = E := ⟨_, rfl⟩
            rw [hE]
            have HE := Lib.hid hE
            clear h0 hE
            go_wp2_with fail
            refine HR2.out.mono ?_
            rintro e wb ⟨hb, h⟩
            have Bb := Lib.hid (Ba.out.trans (hb.mono Ba.out.size))
            have Sb := Lib.hid (Sa.out.below hb)
            have HORb := Lib.hid (HORa.out.below hb)
            clear hb HR2
            rcases h with ⟨h1, gb, czb, rfl, _, hob, _, _⟩ | ⟨h1, rfl⟩
            · exact absurd h1 H0.out
            · rw [HE.out]
              have hsame := same_any (.slice none 0 0) (.slice none 0 0) 0 S S wb (Or.inl ⟨rfl, rfl⟩) (Or.inl ⟨rfl, rfl⟩) (fun _ _ => rfl) (by omega)
              have HSM := Lib.hid hsame
              have hkept := fun m => kept_any (.slice A n ca) gr n cr S (wb.drewN m) (Sb.out.drewN m) (HORb.out.drewN m) HGR.out.1 HGR.out.2.1 hsz
              have HKP := Lib.hid hkept
              clear h1 hsame hkept
              go_wp2_with (first | (go_at_call 23; refine HSM.out.mono ?_; rintro e wf ⟨rfl, ⟨md, rfl⟩⟩) | (go_at_call 17; refine (HKP.out _).mono ?_; rintro e wk ⟨rfl, HDK⟩))
              have HDK := Lib.hid HDK
              have BK : Hid (Below w.heap.size w wk) := Lib.hid (by obtain ⟨m, rfl⟩ := HDK.out; exact below_drw (below_drw Bb.out _) _)
              have SK : Hid (MIn wk (.slice A n ca) n S) := Lib.hid (by obtain ⟨m, rfl⟩ := HDK.out; exact Sb.out)
              have OK : Hid (Own wk gr (n + 2) cr (marked n S)) := Lib.hid (by obtain ⟨m, rfl⟩ := HDK.out; exact HORb.out)
              have HZ1 := Lib.hid (fun u => zeros_lie u)
              have ZA : Hid ((0 + 2) * 56 ≤ 140737488355328) := Lib.hid (by omega)
              have ZB : Hid (∀ ob : Obj, wk.heap.size ≤ (wk.alloc ob).heap.size) := Lib.hid (fun ob => by simp)
              clear HDK
              refine wp_loop_rounds 1 ?_
              rw [rounds_succ]
              go_wp2_with (first | (at_builtin; refine wpList_append_srcM rfl _ _ rfl wk.heap.size 0 _ [] rfl (World.ownsRow_nil _ _ _ _) _ 2 (fun _ => 0) rfl (HZ1.out wk) ZA.out (ZB.out _) ?_))
              intro vc wc hown hgrw hblk
              obtain ⟨Ac, cc, rfl⟩ := own_len hown
              have BC := Lib.hid ((BK.out.alloc BK.out.size _).grown hgrw (Nat.le_trans BK.out.size (by simp)) (by
                intro q hq
                simp [Value.ownBlock] at hq))
              have OC := Lib.hid ((OK.out.below ((Below.refl _ _).alloc (Nat.le_refl _) _)).grown hgrw (by
                intro e
                simp [Value.ownBlock] at e))
              have SC := Lib.hid (HS.out.below BC.out)
              have hkept := kept_any (.slice A n ca) gr n cr S wc SC.out OC.out HGR.out.1 HGR.out.2.1 hsz
              have HKP2 := Lib.hid hkept
              clear hown hgrw hblk hkept ZA ZB
              go_wp2_with (first | (go_at_call 17; refine HKP2.out.mono ?_; rintro e wf ⟨rfl, ⟨mk2, rfl⟩⟩))
              go_ret
              exact ⟨rfl, below_drw BC.out _⟩
      · clear hcap
        go_enter Try.func4, Try.ntmps4
        go_wp2_with fail
        refine (awake_any _).mono ?_
        rintro e w1 ⟨rfl, hb⟩
        have B1 := Lib.hid hb
        have S1 := Lib.hid (HS.out.below hb)
        clear hb
        have hc1 := checkP_any (.slice A n ca) n S w1 S1.out hn
        have hc2 := checkR_any (.slice A n ca) n S w1 S1.out hn
        obtain ⟨C, hC⟩ : ∃ C, chk n S = C := ⟨_, rfl⟩
        rw [hC] at hc1 hc2
        have HC1 := Lib.hid hc1
        have HC2 := Lib.hid hc2
        clear hc1 hc2 hC
        go_wp2_with (first | (go_at_call 18; refine HC1.out.mono ?_; rintro e w' ⟨rfl, rfl⟩) | (go_at_call 19; refine HC2.out.mono ?_; rintro e w' ⟨rfl, rfl⟩))
        have hro := roomy_any (.slice A n ca) n S w1 S1.out hsz
        refine hro.mono ?_
        rintro e wr ⟨gr, cr, rfl, hor, hnr, hcr, hgr, hb⟩
        have HOR := Lib.hid hor
        have HGR := Lib.hid (And.intro hnr (And.intro hcr hgr))
        have Br := Lib.hid (B1.out.trans (hb.mono B1.out.size))
        have Sr := Lib.hid (S1.out.below hb)
        have HMR : Hid (MIn wr (.slice (some ⟨gr, 0, none⟩) n cr) n S) := Lib.hid (Or.inr ⟨_, _, rfl, fun _ => ⟨gr, 0, rfl, fun j hj => by rw [← marked_low (S := S) hj]; exact hor.lies j (by omega)⟩⟩)
        clear hor hnr hcr hgr hb hro
        have hrun := runP_any (.slice (some ⟨gr, 0, none⟩) n cr) n gw (N) S wr HMR.out hn HGW.out (by omega)
        go_wp2_with fail
        refine hrun.mono ?_
        rintro e wa ⟨hb, h⟩
        have Ba := Lib.hid (Br.out.trans (hb.mono Br.out.size))
        have Sa := Lib.hid (Sr.out.below hb)
        have HORa := Lib.hid (HOR.out.below hb)
        have HZ : Hid (gr < wr.heap.size) := Lib.hid HOR.out.lt
        clear hb hrun
        have hrun2 := runR_any (.slice A n ca) n gw (N) S wa Sa.out hn HGW.out (by omega)
        have HR2 := Lib.hid hrun2
        clear hrun2
        rcases h with ⟨h0, ga, cza, rfl, hga, ho, hnc, hcm⟩ | ⟨h0, rfl⟩
        · have Oa := Lib.hid ho
          have H0 := Lib.hid h0
          have hne : gr ≠ ga := by have := HZ.out; omega
          have HNE := Lib.hid (And.intro hne (And.intro hnc (And.intro hcm (Nat.le_trans Br.out.size hga))))
          have H8 := Lib.hid (chk_zero.1 (run_ok h0).2).1
          clear ho h0 hga hne hnc hcm
          go_wp2_with fail
          refine HR2.out.mono ?_
          rintro e wb ⟨hb, h⟩
          have Bb := Lib.hid (Ba.out.trans (hb.mono Ba.out.size))
          have Sb := Lib.hid (Sa.out.below hb)
          have HORb := Lib.hid (HORa.out.below hb)
          have Oab := Lib.hid (Oa.out.below hb)
          clear hb HR2
          rcases h with ⟨h1, gb, czb, rfl, _, hob, _, _⟩ | ⟨h1, rfl⟩
          · have hsame := same_any (.slice (some ⟨ga, 0, none⟩) n cza) (.slice (some ⟨gb, 0, none⟩) n czb) n _ _ wb Oab.out.min hob.min (fun _ _ => rfl) (by omega)
            have HSM := Lib.hid hsame
            have hkept := fun m => kept_any (.slice A n ca) gr n cr S (wb.drewN m) (Sb.out.drewN m) (HORb.out.drewN m) HGR.out.1 HGR.out.2.1 hsz
            have HKP := Lib.hid hkept
            clear hob h1 hsame hkept
            go_wp2_with (first | (go_at_call 23; refine HSM.out.mono ?_; rintro e wf ⟨rfl, ⟨md, rfl⟩⟩) | (go_at_call 17; refine (HKP.out _).mono ?_; rintro e wf ⟨rfl, ⟨mk, rfl⟩⟩))
            go_loopw [12] (fun vi wr => ∃ i : Nat, i ≤ n ∧ vi = .int .i64 i ∧ (∃ T, Own wr ga n cza T) ∧ Own wr gr (n + 2) cr (marked n S) ∧ Below w.heap.size w wr) (fun vi _ => n - (intOf vi).toNat)
            case atStart => exact ⟨0, Nat.zero_le _, rfl, ⟨_, Oab.out⟩, HORb.out, below_drw Bb.out _⟩
            case round =>
              obtain ⟨i, hi, rfl, ⟨T, hot⟩, hor, hbw⟩ := hrel
              have OT := Lib.hid hot
              have OR := Lib.hid hor
              have BW := Lib.hid hbw
              clear hot hor hbw
              by_cases hin : i < n
              · have cm := OT.out.lies (i * 7) (by omega)
                have fm := OT.out.free (i * 7)
                rw [Nat.zero_add] at cm
                go_wp2
                go_roundw
                case rel => exact ⟨i + 1, by omega, by go_num, ⟨_, OT.out.set (i * 7) (-1)⟩, OR.out.far HNE.out.1 _, BW.out.setCell (Nat.le_trans (by simp) HNE.out.2.2.2) _⟩
                case measure => first | (simp [intOf]; done) | (simp [intOf]; omega)
              · have hin2 : i = n := by omega
                subst hin2
                have HRW := Lib.hid (row_of_own OT.out (Nat.le_refl _) HNE.out.2.1 HNE.out.2.2.1)
                have ZA : Hid ((i + 2) * 56 ≤ 140737488355328) := Lib.hid (by omega)
                have ZB : Hid (∀ ob : Obj, ga ≤ (wr.alloc ob).heap.size) := Lib.hid (fun ob => by have := OT.out.lt; simp; omega)
                have hz1 := fun u => zeros_lie u
                have HZ1 := Lib.hid hz1
                clear hz1
                go_wp2_with (first | (at_builtin; refine wpList_append_srcM rfl _ _ rfl ga i _ _ rfl (HRW.out.alloc _) _ 2 (fun _ => 0) rfl (HZ1.out wr) ZA.out (ZB.out _) ?_))
                intro vc wc hown hgrw hblk
                obtain ⟨Ac, cc, rfl⟩ := own_len hown
                have BC := Lib.hid ((BW.out.alloc BW.out.size _).grown hgrw (Nat.le_trans BW.out.size (by simp)) (by
                  intro q hq
                  simp [Value.ownBlock] at hq
                  rw [← hq]; exact HNE.out.2.2.2))
                have OC := Lib.hid ((OR.out.below ((Below.refl _ _).alloc (Nat.le_refl _) _)).grown hgrw (by
                  intro e
                  simp [Value.ownBlock] at e
                  exact HNE.out.1 e))
                have SC := Lib.hid (HS.out.below BC.out)
                have hkept := kept_any (.slice A i ca) gr i cr S wc SC.out OC.out HGR.out.1 HGR.out.2.1 hsz
                have HKP2 := Lib.hid hkept
                clear hown hgrw hblk hkept ZA ZB
                go_wp2_with (first | (go_at_call 17; refine HKP2.out.mono ?_; rintro e wf ⟨rfl, ⟨mk2, rfl⟩⟩))
                go_ret
                exact ⟨rfl, below_drw BC.out _⟩
          · exact absurd H0.out h1
        · have H0 := Lib.hid h0
          obtain ⟨E, hE⟩ : ∃ E, (runR gw n S (N)).1 = E := ⟨_, rfl⟩
          rw [hE]
          have HE := Lib.hid hE
          clear h0 hE
          go_wp2_with fail
          refine HR2.out.mono ?_
          rintro e wb ⟨hb, h⟩
          have Bb := Lib.hid (Ba.out.trans (hb.mono Ba.out.size))
          have Sb := Lib.hid (Sa.out.below hb)
          have HORb := Lib.hid (HORa.out.below hb)
          clear hb HR2
          rcases h with ⟨h1, gb, czb, rfl, _, hob, _, _⟩ | ⟨h1, rfl⟩
          · exact absurd h1 H0.out
          · rw [HE.out]
            have hsame := same_any (.slice none 0 0) (.slice none 0 0) 0 S S wb (Or.inl ⟨rfl, rfl⟩) (Or.inl ⟨rfl, rfl⟩) (fun _ _ => rfl) (by omega)
            have HSM := Lib.hid hsame
            have hkept := fun m => kept_any (.slice A n ca) gr n cr S (wb.drewN m) (Sb.out.drewN m) (HORb.out.drewN m) HGR.out.1 HGR.out.2.1 hsz
            have HKP := Lib.hid hkept
            clear h1 hsame hkept
            go_wp2_with (first | (go_at_call 23; refine HSM.out.mono ?_; rintro e wf ⟨rfl, ⟨md, rfl⟩⟩) | (go_at_call 17; refine (HKP.out _).mono ?_; rintro e wk ⟨rfl, HDK⟩))
            have HDK := Lib.hid HDK
            have BK : Hid (Below w.heap.size w wk) := Lib.hid (by obtain ⟨m, rfl⟩ := HDK.out; exact below_drw (below_drw Bb.out _) _)
            have SK : Hid (MIn wk (.slice A n ca) n S) := Lib.hid (by obtain ⟨m, rfl⟩ := HDK.out; exact Sb.out)
            have OK : Hid (Own wk gr (n + 2) cr (marked n S)) := Lib.hid (by obtain ⟨m, rfl⟩ := HDK.out; exact HORb.out)
            have HZ1 := Lib.hid (fun u => zeros_lie u)
            have ZA : Hid ((0 + 2) * 56 ≤ 140737488355328) := Lib.hid (by omega)
            have ZB : Hid (∀ ob : Obj, wk.heap.size ≤ (wk.alloc ob).heap.size) := Lib.hid (fun ob => by simp)
            clear HDK
            refine wp_loop_rounds 1 ?_
            rw [rounds_succ]
            go_wp2_with (first | (at_builtin; refine wpList_append_srcM rfl _ _ rfl wk.heap.size 0 _ [] rfl (World.ownsRow_nil _ _ _ _) _ 2 (fun _ => 0) rfl (HZ1.out wk) ZA.out (ZB.out _) ?_))
            intro vc wc hown hgrw hblk
            obtain ⟨Ac, cc, rfl⟩ := own_len hown
            have BC := Lib.hid ((BK.out.alloc BK.out.size _).grown hgrw (Nat.le_trans BK.out.size (by simp)) (by
              intro q hq
              simp [Value.ownBlock] at hq))
            have OC := Lib.hid ((OK.out.below ((Below.refl _ _).alloc (Nat.le_refl _) _)).grown hgrw (by
              intro e
              simp [Value.ownBlock] at e))
            have SC := Lib.hid (HS.out.below BC.out)
            have hkept := kept_any (.slice A n ca) gr n cr S wc SC.out OC.out HGR.out.1 HGR.out.2.1 hsz
            have HKP2 := Lib.hid hkept
            clear hown hgrw hblk hkept ZA ZB
            go_wp2_with (first | (go_at_call 17; refine HKP2.out.mono ?_; rintro e wf ⟨rfl, ⟨mk2, rfl⟩⟩))
            go_ret
            exact ⟨rfl, below_drw BC.out _⟩
  · clear HF hf1 hf2
    by_cases hs3 : -4096 ≤ N
    · by_cases hs4 : 2 < n
      · obtain ⟨g0, o0, rfl, hl0⟩ := HS.out.cell (i := 0) (by omega)
        have HS2 : Hid (MIn w (.slice (some ⟨g0, o0, none⟩) 2 ca) 2 S) := Lib.hid (Or.inr ⟨_, _, rfl, fun _ => ⟨g0, o0, rfl, fun j hj => hl0 j (by omega)⟩⟩)
        have hca := (hcap _ _ _ rfl).1
        have hcb := (hcap _ _ _ rfl).2
        unfold maxLen at hcb
        have hn2 : 2 ≤ 4398046511104 := by omega
        have hsz2 : 2 * 56 ≤ 140737488351232 := by omega
        clear hl0
        clear hcap
        go_enter Try.func4, Try.ntmps4
        go_wp2_with fail
        refine (awake_any _).mono ?_
        rintro e w1 ⟨rfl, hb⟩
        have B1 := Lib.hid hb
        have S1 := Lib.hid (HS.out.below hb)
        have S12 := Lib.hid (HS2.out.below hb)
        clear hb
        have hc1 := checkP_any (.slice (some ⟨g0, o0, none⟩) n ca) n S w1 S1.out hn
        have hc2 := checkR_any (.slice (some ⟨g0, o0, none⟩) n ca) n S w1 S1.out hn
        obtain ⟨C, hC⟩ : ∃ C, chk n S = C := ⟨_, rfl⟩
        rw [hC] at hc1 hc2
        have HC1 := Lib.hid hc1
        have HC2 := Lib.hid hc2
        clear hc1 hc2 hC
        go_wp2_with (first | (go_at_call 18; refine HC1.out.mono ?_; rintro e w' ⟨rfl, rfl⟩) | (go_at_call 19; refine HC2.out.mono ?_; rintro e w' ⟨rfl, rfl⟩))
        have hro := roomy_any (.slice (some ⟨g0, o0, none⟩) 2 ca) 2 S w1 S12.out hsz2
        refine hro.mono ?_
        rintro e wr ⟨gr, cr, rfl, hor, hnr, hcr, hgr, hb⟩
        have HOR := Lib.hid hor
        have HGR := Lib.hid (And.intro hnr (And.intro hcr hgr))
        have Br := Lib.hid (B1.out.trans (hb.mono B1.out.size))
        have Sr := Lib.hid (S12.out.below hb)
        have HMR : Hid (MIn wr (.slice (some ⟨gr, 0, none⟩) 2 cr) 2 S) := Lib.hid (Or.inr ⟨_, _, rfl, fun _ => ⟨gr, 0, rfl, fun j hj => by rw [← marked_low (S := S) hj]; exact hor.lies j (by omega)⟩⟩)
        clear hor hnr hcr hgr hb hro
        have hrun := runP_any (.slice (some ⟨gr, 0, none⟩) 2 cr) 2 gw (N) S wr HMR.out hn2 HGW.out (by omega)
        go_wp2_with fail
        refine hrun.mono ?_
        rintro e wa ⟨hb, h⟩
        have Ba := Lib.hid (Br.out.trans (hb.mono Br.out.size))
        have Sa := Lib.hid (Sr.out.below hb)
        have HORa := Lib.hid (HOR.out.below hb)
        have HZ : Hid (gr < wr.heap.size) := Lib.hid HOR.out.lt
        clear hb hrun
        have hrun2 := runR_any (.slice (some ⟨g0, o0, none⟩) 2 ca) 2 gw (N) S wa Sa.out hn2 HGW.out (by omega)
        have HR2 := Lib.hid hrun2
        clear hrun2
        rcases h with ⟨h0, ga, cza, rfl, hga, ho, hnc, hcm⟩ | ⟨h0, rfl⟩
        · have Oa := Lib.hid ho
          have H0 := Lib.hid h0
          have hne : gr ≠ ga := by have := HZ.out; omega
          have HNE := Lib.hid (And.intro hne (And.intro hnc (And.intro hcm (Nat.le_trans Br.out.size hga))))
          have H8 := Lib.hid (chk_zero.1 (run_ok h0).2).1
          clear ho h0 hga hne hnc hcm
          go_wp2_with fail
          refine HR2.out.mono ?_
          rintro e wb ⟨hb, h⟩
          have Bb := Lib.hid (Ba.out.trans (hb.mono Ba.out.size))
          have Sb := Lib.hid (Sa.out.below hb)
          have HORb := Lib.hid (HORa.out.below hb)
          have Oab := Lib.hid (Oa.out.below hb)
          clear hb HR2
          rcases h with ⟨h1, gb, czb, rfl, _, hob, _, _⟩ | ⟨h1, rfl⟩
          · have hsame := same_any (.slice (some ⟨ga, 0, none⟩) 2 cza) (.slice (some ⟨gb, 0, none⟩) 2 czb) 2 _ _ wb Oab.out.min hob.min (fun _ _ => rfl) (by omega)
            have HSM := Lib.hid hsame
            have hkept := fun m => kept_any (.slice (some ⟨g0, o0, none⟩) 2 ca) gr 2 cr S (wb.drewN m) (Sb.out.drewN m) (HORb.out.drewN m) HGR.out.1 HGR.out.2.1 hsz2
            have HKP := Lib.hid hkept
            clear hob h1 hsame hkept
            go_wp2_with (first | (go_at_call 23; refine HSM.out.mono ?_; rintro e wf ⟨rfl, ⟨md, rfl⟩⟩) | (go_at_call 17; refine (HKP.out _).mono ?_; rintro e wf ⟨rfl, ⟨mk, rfl⟩⟩))
            go_loopw [12] (fun vi wr => ∃ i : Nat, i ≤ 2 ∧ vi = .int .i64 i ∧ (∃ T, Own wr ga 2 cza T) ∧ Own wr gr (2 + 2) cr (marked 2 S) ∧ Below w.heap.size w wr) (fun vi _ => 2 - (intOf vi).toNat)
            case atStart => exact ⟨0, Nat.zero_le _, rfl, ⟨_, Oab.out⟩, HORb.out, below_drw Bb.out _⟩
            case round =>
              obtain ⟨i, hi, rfl, ⟨T, hot⟩, hor, hbw⟩ := hrel
              have OT := Lib.hid hot
              have OR := Lib.hid hor
              have BW := Lib.hid hbw
              clear hot hor hbw
              by_cases hin : i < 2
              · have cm := OT.out.lies (i * 7) (by omega)
                have fm := OT.out.free (i * 7)
                rw [Nat.zero_add] at cm
                go_wp2
                go_roundw
                case rel => exact ⟨i + 1, by omega, by go_num, ⟨_, OT.out.set (i * 7) (-1)⟩, OR.out.far HNE.out.1 _, BW.out.setCell (Nat.le_trans (by simp) HNE.out.2.2.2) _⟩
                case measure => first | (simp [intOf]; done) | (simp [intOf]; omega)
              · have hin2 : i = 2 := by omega
                subst hin2
                have HRW := Lib.hid (row_of_own OT.out (Nat.le_refl _) HNE.out.2.1 HNE.out.2.2.1)
                have ZA : Hid ((2 + 2) * 56 ≤ 140737488355328) := Lib.hid (by omega)
                have ZB : Hid (∀ ob : Obj, ga ≤ (wr.alloc ob).heap.size) := Lib.hid (fun ob => by have := OT.out.lt; simp; omega)
                have hz1 := fun u => zeros_lie u
                have HZ1 := Lib.hid hz1
                clear hz1
                go_wp2_with (first | (at_builtin; refine wpList_append_srcM rfl _ _ rfl ga 2 _ _ rfl (HRW.out.alloc _) _ 2 (fun _ => 0) rfl (HZ1.out wr) ZA.out (ZB.out _) ?_))
                intro vc wc hown hgrw hblk
                obtain ⟨Ac, cc, rfl⟩ := own_len hown
                have BC := Lib.hid ((BW.out.alloc BW.out.size _).grown hgrw (Nat.le_trans BW.out.size (by simp)) (by
                  intro q hq
                  simp [Value.ownBlock] at hq
                  rw [← hq]; exact HNE.out.2.2.2))
                have OC := Lib.hid ((OR.out.below ((Below.refl _ _).alloc (Nat.le_refl _) _)).grown hgrw (by
                  intro e
                  simp [Value.ownBlock] at e
                  exact HNE.out.1 e))
                have SC := Lib.hid (HS2.out.below BC.out)
                have hkept := kept_any (.slice (some ⟨g0, o0, none⟩) 2 ca) gr 2 cr S wc SC.out OC.out HGR.out.1 HGR.out.2.1 hsz2
                have HKP2 := Lib.hid hkept
                clear hown hgrw hblk hkept ZA ZB
                go_wp2_with (first | (go_at_call 17; refine HKP2.out.mono ?_; rintro e wf ⟨rfl, ⟨mk2, rfl⟩⟩))
                go_ret
                exact ⟨rfl, below_drw BC.out _⟩
          · exact absurd H0.out h1
        · have H0 := Lib.hid h0
          obtain ⟨E, hE⟩ : ∃ E, (runR gw 2 S (N)).1 = E := ⟨_, rfl⟩
          rw [hE]
          have HE := Lib.hid hE
          clear h0 hE
          go_wp2_with fail
          refine HR2.out.mono ?_
          rintro e wb ⟨hb, h⟩
          have Bb := Lib.hid (Ba.out.trans (hb.mono Ba.out.size))
          have Sb := Lib.hid (Sa.out.below hb)
          have HORb := Lib.hid (HORa.out.below hb)
          clear hb HR2
          rcases h with ⟨h1, gb, czb, rfl, _, hob, _, _⟩ | ⟨h1, rfl⟩
          · exact absurd h1 H0.out
          · rw [HE.out]
            have hsame := same_any (.slice none 0 0) (.slice none 0 0) 0 S S wb (Or.inl ⟨rfl, rfl⟩) (Or.inl ⟨rfl, rfl⟩) (fun _ _ => rfl) (by omega)
            have HSM := Lib.hid hsame
            have hkept := fun m => kept_any (.slice (some ⟨g0, o0, none⟩) 2 ca) gr 2 cr S (wb.drewN m) (Sb.out.drewN m) (HORb.out.drewN m) HGR.out.1 HGR.out.2.1 hsz2
            have HKP := Lib.hid hkept
            clear h1 hsame hkept
            go_wp2_with (first | (go_at_call 23; refine HSM.out.mono ?_; rintro e wf ⟨rfl, ⟨md, rfl⟩⟩) | (go_at_call 17; refine (HKP.out _).mono ?_; rintro e wk ⟨rfl, HDK⟩))
            have HDK := Lib.hid HDK
            have BK : Hid (Below w.heap.size w wk) := Lib.hid (by obtain ⟨m, rfl⟩ := HDK.out; exact below_drw (below_drw Bb.out _) _)
            have SK : Hid (MIn wk (.slice (some ⟨g0, o0, none⟩) 2 ca) 2 S) := Lib.hid (by obtain ⟨m, rfl⟩ := HDK.out; exact Sb.out)
            have OK : Hid (Own wk gr (2 + 2) cr (marked 2 S)) := Lib.hid (by obtain ⟨m, rfl⟩ := HDK.out; exact HORb.out)
            have HZ1 := Lib.hid (fun u => zeros_lie u)
            have ZA : Hid ((0 + 2) * 56 ≤ 140737488355328) := Lib.hid (by omega)
            have ZB : Hid (∀ ob : Obj, wk.heap.size ≤ (wk.alloc ob).heap.size) := Lib.hid (fun ob => by simp)
            clear HDK
            refine wp_loop_rounds 1 ?_
            rw [rounds_succ]
            go_wp2_with (first | (at_builtin; refine wpList_append_srcM rfl _ _ rfl wk.heap.size 0 _ [] rfl (World.ownsRow_nil _ _ _ _) _ 2 (fun _ => 0) rfl (HZ1.out wk) ZA.out (ZB.out _) ?_))
            intro vc wc hown hgrw hblk
            obtain ⟨Ac, cc, rfl⟩ := own_len hown
            have BC := Lib.hid ((BK.out.alloc BK.out.size _).grown hgrw (Nat.le_trans BK.out.size (by simp)) (by
              intro q hq
              simp [Value.ownBlock] at hq))
            have OC := Lib.hid ((OK.out.below ((Below.refl _ _).alloc (Nat.le_refl _) _)).grown hgrw (by
              intro e
              simp [Value.ownBlock] at e))
            have SC := Lib.hid (HS2.out.below BC.out)
            have hkept := kept_any (.slice (some ⟨g0, o0, none⟩) 2 ca) gr 2 cr S wc SC.out OC.out HGR.out.1 HGR.out.2.1 hsz2
            have HKP2 := Lib.hid hkept
            clear hown hgrw hblk hkept ZA ZB
            go_wp2_with (first | (go_at_call 17; refine HKP2.out.mono ?_; rintro e wf ⟨rfl, ⟨mk2, rfl⟩⟩))
            go_ret
            exact ⟨rfl, below_drw BC.out _⟩
      · clear hcap
        go_enter Try.func4, Try.ntmps4
        go_wp2_with fail
        refine (awake_any _).mono ?_
        rintro e w1 ⟨rfl, hb⟩
        have B1 := Lib.hid hb
        have S1 := Lib.hid (HS.out.below hb)
        clear hb
        have hc1 := checkP_any (.slice A n ca) n S w1 S1.out hn
        have hc2 := checkR_any (.slice A n ca) n S w1 S1.out hn
        obtain ⟨C, hC⟩ : ∃ C, chk n S = C := ⟨_, rfl⟩
        rw [hC] at hc1 hc2
        have HC1 := Lib.hid hc1
        have HC2 := Lib.hid hc2
        clear hc1 hc2 hC
        go_wp2_with (first | (go_at_call 18; refine HC1.out.mono ?_; rintro e w' ⟨rfl, rfl⟩) | (go_at_call 19; refine HC2.out.mono ?_; rintro e w' ⟨rfl, rfl⟩))
        have hro := roomy_any (.slice A n ca) n S w1 S1.out hsz
        refine hro.mono ?_
        rintro e wr ⟨gr, cr, rfl, hor, hnr, hcr, hgr, hb⟩
        have HOR := Lib.hid hor
        have HGR := Lib.hid (And.intro hnr (And.intro hcr hgr))
        have Br := Lib.hid (B1.out.trans (hb.mono B1.out.size))
        have Sr := Lib.hid (S1.out.below hb)
        have HMR : Hid (MIn wr (.slice (some ⟨gr, 0, none⟩) n cr) n S) := Lib.hid (Or.inr ⟨_, _, rfl, fun _ => ⟨gr, 0, rfl, fun j hj => by rw [← marked_low (S := S) hj]; exact hor.lies j (by omega)⟩⟩)
        clear hor hnr hcr hgr hb hro
        have hrun := runP_any (.slice (some ⟨gr, 0, none⟩) n cr) n gw (N) S wr HMR.out hn HGW.out (by omega)
        go_wp2_with fail
        refine hrun.mono ?_
        rintro e wa ⟨hb, h⟩
        have Ba := Lib.hid (Br.out.trans (hb.mono Br.out.size))
        have Sa := Lib.hid (Sr.out.below hb)
        have HORa := Lib.hid (HOR.out.below hb)
        have HZ : Hid (gr < wr.heap.size) := Lib.hid HOR.out.lt
        clear hb hrun
        have hrun2 := runR_any (.slice A n ca) n gw (N) S wa Sa.out hn HGW.out (by omega)
        have HR2 := Lib.hid hrun2
        clear hrun2
        rcases h with ⟨h0, ga, cza, rfl, hga, ho, hnc, hcm⟩ | ⟨h0, rfl⟩
        · have Oa := Lib.hid ho
          have H0 := Lib.hid h0
          have hne : gr ≠ ga := by have := HZ.out; omega
          have HNE := Lib.hid (And.intro hne (And.intro hnc (And.intro hcm (Nat.le_trans Br.out.size hga))))
          have H8 := Lib.hid (chk_zero.1 (run_ok h0).2).1
          clear ho h0 hga hne hnc hcm
          go_wp2_with fail
          refine HR2.out.mono ?_
          rintro e wb ⟨hb, h⟩
          have Bb := Lib.hid (Ba.out.trans (hb.mono Ba.out.size))
          have Sb := Lib.hid (Sa.out.below hb)
          have HORb := Lib.hid (HORa.out.below hb)
          have Oab := Lib.hid (Oa.out.below hb)
          clear hb HR2
          rcases h with ⟨h1, gb, czb, rfl, _, hob, _, _⟩ | ⟨h1, rfl⟩
          · have hsame := same_any (.slice (some ⟨ga, 0, none⟩) n cza) (.slice (some ⟨gb, 0, none⟩) n czb) n _ _ wb Oab.out.min hob.min (fun _ _ => rfl) (by omega)
            have HSM := Lib.hid hsame
            have hkept := fun m => kept_any (.slice A n ca) gr n cr S (wb.drewN m) (Sb.out.drewN m) (HORb.out.drewN m) HGR.out.1 HGR.out.2.1 hsz
            have HKP := Lib.hid hkept
            clear hob h1 hsame hkept
            go_wp2_with (first | (go_at_call 23; refine HSM.out.mono ?_; rintro e wf ⟨rfl, ⟨md, rfl⟩⟩) | (go_at_call 17; refine (HKP.out _).mono ?_; rintro e wf ⟨rfl, ⟨mk, rfl⟩⟩))
            go_loopw [12] (fun vi wr => ∃ i : Nat, i ≤ n ∧ vi = .int .i64 i ∧ (∃ T, Own wr ga n cza T) ∧ Own wr gr (n + 2) cr (marked n S) ∧ Below w.heap.size w wr) (fun vi _ => n - (intOf vi).toNat)
            case atStart => exact ⟨0, Nat.zero_le _, rfl, ⟨_, Oab.out⟩, HORb.out, below_drw Bb.out _⟩
            case round =>
              obtain ⟨i, hi, rfl, ⟨T, hot⟩, hor, hbw⟩ := hrel
              have OT := Lib.hid hot
              have OR := Lib.hid hor
              have BW := Lib.hid hbw
              clear hot hor hbw
              by_cases hin : i < n
              · have cm := OT.out.lies (i * 7) (by omega)
                have fm := OT.out.free (i * 7)
                rw [Nat.zero_add] at cm
                go_wp2
                go_roundw
                case rel => exact ⟨i + 1, by omega, by go_num, ⟨_, OT.out.set (i * 7) (-1)⟩, OR.out.far HNE.out.1 _, BW.out.setCell (Nat.le_trans (by simp) HNE.out.2.2.2) _⟩
                case measure => first | (simp [intOf]; done) | (simp [intOf]; omega)
              · have hin2 : i = n := by omega
                subst hin2
                have HRW := Lib.hid (row_of_own OT.out (Nat.le_refl _) HNE.out.2.1 HNE.out.2.2.1)
                have ZA : Hid ((i + 2) * 56 ≤ 140737488355328) := Lib.hid (by omega)
                have ZB : Hid (∀ ob : Obj, ga ≤ (wr.alloc ob).heap.size) := Lib.hid (fun ob => by have := OT.out.lt; simp; omega)
                have hz1 := fun u => zeros_lie u
                have HZ1 := Lib.hid hz1
                clear hz1
                go_wp2_with (first | (at_builtin; refine wpList_append_srcM rfl _ _ rfl ga i _ _ rfl (HRW.out.alloc _) _ 2 (fun _ => 0) rfl (HZ1.out wr) ZA.out (ZB.out _) ?_))
                intro vc wc hown hgrw hblk
                obtain ⟨Ac, cc, rfl⟩ := own_len hown
                have BC := Lib.hid ((BW.out.alloc BW.out.size _).grown hgrw (Nat.le_trans BW.out.size (by simp)) (by
                  intro q hq
                  simp [Value.ownBlock] at hq
                  rw [← hq]; exact HNE.out.2.2.2))
                have OC := Lib.hid ((OR.out.below ((Below.refl _ _).alloc (Nat.le_refl _) _)).grown hgrw (by
                  intro e
                  simp [Value.ownBlock] at e
                  exact HNE.out.1 e))
                have SC := Lib.hid (HS.out.below BC.out)
                have hkept := kept_any (.slice A i ca) gr i cr S wc SC.out OC.out HGR.out.1 HGR.out.2.1 hsz
                have HKP2 := Lib.hid hkept
                clear hown hgrw hblk hkept ZA ZB
                go_wp2_with (first | (go_at_call 17; refine HKP2.out.mono ?_; rintro e wf ⟨rfl, ⟨mk2, rfl⟩⟩))
                go_ret
                exact ⟨rfl, below_drw BC.out _⟩
          · exact absurd H0.out h1
        · have H0 := Lib.hid h0
          obtain ⟨E, hE⟩ : ∃ E, (runR gw n S (N)).1 = E := ⟨_, rfl⟩
          rw [hE]
          have HE := Lib.hid hE
          clear h0 hE
          go_wp2_with fail
          refine HR2.out.mono ?_
          rintro e wb ⟨hb, h⟩
          have Bb := Lib.hid (Ba.out.trans (hb.mono Ba.out.size))
          have Sb := Lib.hid (Sa.out.below hb)
          have HORb := Lib.hid (HORa.out.below hb)
          clear hb HR2
          rcases h with ⟨h1, gb, czb, rfl, _, hob, _, _⟩ | ⟨h1, rfl⟩
          · exact absurd h1 H0.out
          · rw [HE.out]
            have hsame := same_any (.slice none 0 0) (.slice none 0 0) 0 S S wb (Or.inl ⟨rfl, rfl⟩) (Or.inl ⟨rfl, rfl⟩) (fun _ _ => rfl) (by omega)
            have HSM := Lib.hid hsame
            have hkept := fun m => kept_any (.slice A n ca) gr n cr S (wb.drewN m) (Sb.out.drewN m) (HORb.out.drewN m) HGR.out.1 HGR.out.2.1 hsz
            have HKP := Lib.hid hkept
            clear h1 hsame hkept
            go_wp2_with (first | (go_at_call 23; refine HSM.out.mono ?_; rintro e wf ⟨rfl, ⟨md, rfl⟩⟩) | (go_at_call 17; refine (HKP.out _).mono ?_; rintro e wk ⟨rfl, HDK⟩))
            have HDK := Lib.hid HDK
            have BK : Hid (Below w.heap.size w wk) := Lib.hid (by obtain ⟨m, rfl⟩ := HDK.out; exact below_drw (below_drw Bb.out _) _)
            have SK : Hid (MIn wk (.slice A n ca) n S) := Lib.hid (by obtain ⟨m, rfl⟩ := HDK.out; exact Sb.out)
            have OK : Hid (Own wk gr (n + 2) cr (marked n S)) := Lib.hid (by obtain ⟨m, rfl⟩ := HDK.out; exact HORb.out)
            have HZ1 := Lib.hid (fun u => zeros_lie u)
            have ZA : Hid ((0 + 2) * 56 ≤ 140737488355328) := Lib.hid (by omega)
            have ZB : Hid (∀ ob : Obj, wk.heap.size ≤ (wk.alloc ob).heap.size) := Lib.hid (fun ob => by simp)
            clear HDK
            refine wp_loop_rounds 1 ?_
            rw [rounds_succ]
            go_wp2_with (first | (at_builtin; refine wpList_append_srcM rfl _ _ rfl wk.heap.size 0 _ [] rfl (World.ownsRow_nil _ _ _ _) _ 2 (fun _ => 0) rfl (HZ1.out wk) ZA.out (ZB.out _) ?_))
            intro vc wc hown hgrw hblk
            obtain ⟨Ac, cc, rfl⟩ := own_len hown
            have BC := Lib.hid ((BK.out.alloc BK.out.size _).grown hgrw (Nat.le_trans BK.out.size (by simp)) (by
              intro q hq
              simp [Value.ownBlock] at hq))
            have OC := Lib.hid ((OK.out.below ((Below.refl _ _).alloc (Nat.le_refl _) _)).grown hgrw (by
              intro e
              simp [Value.ownBlock] at e))
            have SC := Lib.hid (HS.out.below BC.out)
            have hkept := kept_any (.slice A n ca) gr n cr S wc SC.out OC.out HGR.out.1 HGR.out.2.1 hsz
            have HKP2 := Lib.hid hkept
            clear hown hgrw hblk hkept ZA ZB
            go_wp2_with (first | (go_at_call 17; refine HKP2.out.mono ?_; rintro e wf ⟨rfl, ⟨mk2, rfl⟩⟩))
            go_ret
            exact ⟨rfl, below_drw BC.out _⟩
    · clear hcap
      go_enter Try.func4, Try.ntmps4
      go_wp2_with fail
      refine (awake_any _).mono ?_
      rintro e w1 ⟨rfl, hb⟩
      have B1 := Lib.hid hb
      have S1 := Lib.hid (HS.out.below hb)
      clear hb
      have hc1 := checkP_any (.slice A n ca) n S w1 S1.out hn
      have hc2 := checkR_any (.slice A n ca) n S w1 S1.out hn
      obtain ⟨C, hC⟩ : ∃ C, chk n S = C := ⟨_, rfl⟩
      rw [hC] at hc1 hc2
      have HC1 := Lib.hid hc1
      have HC2 := Lib.hid hc2
      clear hc1 hc2 hC
      go_wp2_with (first | (go_at_call 18; refine HC1.out.mono ?_; rintro e w' ⟨rfl, rfl⟩) | (go_at_call 19; refine HC2.out.mono ?_; rintro e w' ⟨rfl, rfl⟩))
      have hro := roomy_any (.slice A n ca) n S w1 S1.out hsz
      refine hro.mono ?_
      rintro e wr ⟨gr, cr, rfl, hor, hnr, hcr, hgr, hb⟩
      have HOR := Lib.hid hor
      have HGR := Lib.hid (And.intro hnr (And.intro hcr hgr))
      have Br := Lib.hid (B1.out.trans (hb.mono B1.out.size))
      have Sr := Lib.hid (S1.out.below hb)
      have HMR : Hid (MIn wr (.slice (some ⟨gr, 0, none⟩) n cr) n S) := Lib.hid (Or.inr ⟨_, _, rfl, fun _ => ⟨gr, 0, rfl, fun j hj => by rw [← marked_low (S := S) hj]; exact hor.lies j (by omega)⟩⟩)
      clear hor hnr hcr hgr hb hro
      have hrun := runP_any (.slice (some ⟨gr, 0, none⟩) n cr) n gw (N) S wr HMR.out hn HGW.out (by omega)
      go_wp2_with fail
      refine hrun.mono ?_
      rintro e wa ⟨hb, h⟩
      have Ba := Lib.hid (Br.out.trans (hb.mono Br.out.size))
      have Sa := Lib.hid (Sr.out.below hb)
      have HORa := Lib.hid (HOR.out.below hb)
      have HZ : Hid (gr < wr.heap.size) := Lib.hid HOR.out.lt
      clear hb hrun
      have hrun2 := runR_any (.slice A n ca) n gw (N) S wa Sa.out hn HGW.out (by omega)
      have HR2 := Lib.hid hrun2
      clear hrun2
      rcases h with ⟨h0, ga, cza, rfl, hga, ho, hnc, hcm⟩ | ⟨h0, rfl⟩
      · have Oa := Lib.hid ho
        have H0 := Lib.hid h0
        have hne : gr ≠ ga := by have := HZ.out; omega
        have HNE := Lib.hid (And.intro hne (And.intro hnc (And.intro hcm (Nat.le_trans Br.out.size hga))))
        have H8 := Lib.hid (chk_zero.1 (run_ok h0).2).1
        clear ho h0 hga hne hnc hcm
        go_wp2_with fail
        refine HR2.out.mono ?_
        rintro e wb ⟨hb, h⟩
        have Bb := Lib.hid (Ba.out.trans (hb.mono Ba.out.size))
        have Sb := Lib.hid (Sa.out.below hb)
        have HORb := Lib.hid (HORa.out.below hb)
        have Oab := Lib.hid (Oa.out.below hb)
        clear hb HR2
        rcases h with ⟨h1, gb, czb, rfl, _, hob, _, _⟩ | ⟨h1, rfl⟩
        · have hsame := same_any (.slice (some ⟨ga, 0, none⟩) n cza) (.slice (some ⟨gb, 0, none⟩) n czb) n _ _ wb Oab.out.min hob.min (fun _ _ => rfl) (by omega)
          have HSM := Lib.hid hsame
          have hkept := fun m => kept_any (.slice A n ca) gr n cr S (wb.drewN m) (Sb.out.drewN m) (HORb.out.drewN m) HGR.out.1 HGR.out.2.1 hsz
          have HKP := Lib.hid hkept
          clear hob h1 hsame hkept
          go_wp2_with (first | (go_at_call 23; refine HSM.out.mono ?_; rintro e wf ⟨rfl, ⟨md, rfl⟩⟩) | (go_at_call 17; refine (HKP.out _).mono ?_; rintro e wf ⟨rfl, ⟨mk, rfl⟩⟩))
          go_loopw [12] (fun vi wr => ∃ i : Nat, i ≤ n ∧ vi = .int .i64 i ∧ (∃ T, Own wr ga n cza T) ∧ Own wr gr (n + 2) cr (marked n S) ∧ Below w.heap.size w wr) (fun vi _ => n - (intOf vi).toNat)
          case atStart => exact ⟨0, Nat.zero_le _, rfl, ⟨_, Oab.out⟩, HORb.out, below_drw Bb.out _⟩
          case round =>
            obtain ⟨i, hi, rfl, ⟨T, hot⟩, hor, hbw⟩ := hrel
            have OT := Lib.hid hot
            have OR := Lib.hid hor
            have BW := Lib.hid hbw
            clear hot hor hbw
            by_cases hin : i < n
            · have cm := OT.out.lies (i * 7) (by omega)
              have fm := OT.out.free (i * 7)
              rw [Nat.zero_add] at cm
              go_wp2
              go_roundw
              case rel => exact ⟨i + 1, by omega, by go_num, ⟨_, OT.out.set (i * 7) (-1)⟩, OR.out.far HNE.out.1 _, BW.out.setCell (Nat.le_trans (by simp) HNE.out.2.2.2) _⟩
              case measure => first | (simp [intOf]; done) | (simp [intOf]; omega)
            · have hin2 : i = n := by omega
              subst hin2
              have HRW := Lib.hid (row_of_own OT.out (Nat.le_refl _) HNE.out.2.1 HNE.out.2.2.1)
              have ZA : Hid ((i + 2) * 56 ≤ 140737488355328) := Lib.hid (by omega)
              have ZB : Hid (∀ ob : Obj, ga ≤ (wr.alloc ob).heap.size) := Lib.hid (fun ob => by have := OT.out.lt; simp; omega)
              have hz1 := fun u => zeros_lie u
              have HZ1 := Lib.hid hz1
              clear hz1
              go_wp2_with (first | (at_builtin; refine wpList_append_srcM rfl _ _ rfl ga i _ _ rfl (HRW.out.alloc _) _ 2 (fun _ => 0) rfl (HZ1.out wr) ZA.out (ZB.out _) ?_))
              intro vc wc hown hgrw hblk
              obtain ⟨Ac, cc, rfl⟩ := own_len hown
              have BC := Lib.hid ((BW.out.alloc BW.out.size _).grown hgrw (Nat.le_trans BW.out.size (by simp)) (by
                intro q hq
                simp [Value.ownBlock] at hq
                rw [← hq]; exact HNE.out.2.2.2))
              have OC := Lib.hid ((OR.out.below ((Below.refl _ _).alloc (Nat.le_refl _) _)).grown hgrw (by
                intro e
                simp [Value.ownBlock] at e
                exact HNE.out.1 e))
              have SC := Lib.hid (HS.out.below BC.out)
              have hkept := kept_any (.slice A i ca) gr i cr S wc SC.out OC.out HGR.out.1 HGR.out.2.1 hsz
              have HKP2 := Lib.hid hkept
              clear hown hgrw hblk hkept ZA ZB
              go_wp2_with (first | (go_at_call 17; refine HKP2.out.mono ?_; rintro e wf ⟨rfl, ⟨mk2, rfl⟩⟩))
              go_ret
              exact ⟨rfl, below_drw BC.out _⟩
        · exact absurd H0.out h1
      · have H0 := Lib.hid h0
        obtain ⟨E, hE⟩ : ∃ E, (runR gw n S (N)).1 = E := ⟨_, rfl⟩
        rw [hE]
        have HE := Lib.hid hE
        clear h0 hE
        go_wp2_with fail
        refine HR2.out.mono ?_
        rintro e wb ⟨hb, h⟩
        have Bb := Lib.hid (Ba.out.trans (hb.mono Ba.out.size))
        have Sb := Lib.hid (Sa.out.below hb)
        have HORb := Lib.hid (HORa.out.below hb)
        clear hb HR2
        rcases h with ⟨h1, gb, czb, rfl, _, hob, _, _⟩ | ⟨h1, rfl⟩
        · exact absurd h1 H0.out
        · rw [HE.out]
          have hsame := same_any (.slice none 0 0) (.slice none 0 0) 0 S S wb (Or.inl ⟨rfl, rfl⟩) (Or.inl ⟨rfl, rfl⟩) (fun _ _ => rfl) (by omega)
          have HSM := Lib.hid hsame
          have hkept := fun m => kept_any (.slice A n ca) gr n cr S (wb.drewN m) (Sb.out.drewN m) (HORb.out.drewN m) HGR.out.1 HGR.out.2.1 hsz
          have HKP := Lib.hid hkept
          clear h1 hsame hkept
          go_wp2_with (first | (go_at_call 23; refine HSM.out.mono ?_; rintro e wf ⟨rfl, ⟨md, rfl⟩⟩) | (go_at_call 17; refine (HKP.out _).mono ?_; rintro e wk ⟨rfl, HDK⟩))
          have HDK := Lib.hid HDK
          have BK : Hid (Below w.heap.size w wk) := Lib.hid (by obtain ⟨m, rfl⟩ := HDK.out; exact below_drw (below_drw Bb.out _) _)
          have SK : Hid (MIn wk (.slice A n ca) n S) := Lib.hid (by obtain ⟨m, rfl⟩ := HDK.out; exact Sb.out)
          have OK : Hid (Own wk gr (n + 2) cr (marked n S)) := Lib.hid (by obtain ⟨m, rfl⟩ := HDK.out; exact HORb.out)
          have HZ1 := Lib.hid (fun u => zeros_lie u)
          have ZA : Hid ((0 + 2) * 56 ≤ 140737488355328) := Lib.hid (by omega)
          have ZB : Hid (∀ ob : Obj, wk.heap.size ≤ (wk.alloc ob).heap.size) := Lib.hid (fun ob => by simp)
          clear HDK
          refine wp_loop_rounds 1 ?_
          rw [rounds_succ]
          go_wp2_with (first | (at_builtin; refine wpList_append_srcM rfl _ _ rfl wk.heap.size 0 _ [] rfl (World.ownsRow_nil _ _ _ _) _ 2 (fun _ => 0) rfl (HZ1.out wk) ZA.out (ZB.out _) ?_))
          intro vc wc hown hgrw hblk
          obtain ⟨Ac, cc, rfl⟩ := own_len hown
          have BC := Lib.hid ((BK.out.alloc BK.out.size _).grown hgrw (Nat.le_trans BK.out.size (by simp)) (by
            intro q hq
            simp [Value.ownBlock] at hq))
          have OC := Lib.hid ((OK.out.below ((Below.refl _ _).alloc (Nat.le_refl _) _)).grown hgrw (by
            intro e
            simp [Value.ownBlock] at e))
          have SC := Lib.hid (HS.out.below BC.out)
          have hkept := kept_any (.slice A n ca) gr n cr S wc SC.out OC.out HGR.out.1 HGR.out.2.1 hsz
          have HKP2 := Lib.hid hkept
          clear hown hgrw hblk hkept ZA ZB
          go_wp2_with (first | (go_at_call 17; refine HKP2.out.mono ?_; rintro e wf ⟨rfl, ⟨mk2, rfl⟩⟩))
          go_ret
          exact ⟨rfl, below_drw BC.out _⟩
end Go.Proofs.Ytjapohjfheielaa
