/- Walks: StepOn. Conditions: the masses lie in memory. -/
import Derived.Test.YtjapohjfheielaaC8
namespace Go.Proofs.Ytjapohjfheielaa
open Go.RowKit
open Ieee (FinW V dR big double wordOf deepD)
attribute [local irreducible] Ieee.V Ieee.Format.rnd fv Ieee.big Ieee.deepD flW sqW hU rN pk kickAt kickS driftS runR runO stepO chk

set_option maxHeartbeats 4000000 in
theorem on_walk (v : Value) (n gw : Nat) (m0 n0 : Int) (S : Nat → Int) (w : World) (hv : MIn w v n S) (hn : n ≤ 4398046511104) (hsz : n * 56 ≤ 140737488351232) (hgw : gw < 18446744073709551616) (hN : -9223372036854775808 ≤ m0 ∧ m0 ≤ 9223372036854775807) (hN2 : -9223372036854775808 ≤ n0 ∧ n0 ≤ 9223372036854775807) :
    Calls Try.prog 9 #[v, .float .f64 gw, .int .i64 m0, .int .i64 n0] w fun e w' => e = .returned (.bool true) ∧ Below w.heap.size w w' := by
  have HS := Lib.hid hv
  have HGW := Lib.hid hgw
  obtain ⟨A, ca, rfl⟩ := hv.form
  clear hv hgw
  have HF := Lib.hid (fewN_le m0)
  have HF2 := Lib.hid (fewN_le n0)
  have hfa := fun u => few_any m0 u hN
  have hfb := fun u => few_any n0 u hN2
  have HN := Lib.hid hfa
  have HN2 := Lib.hid hfb
  obtain ⟨M, hM⟩ : ∃ M, fewN m0 = M := ⟨_, rfl⟩
  obtain ⟨K, hK⟩ : ∃ K, fewN n0 = K := ⟨_, rfl⟩
  rw [hM] at HF HN
  rw [hK] at HF2 HN2
  have hf1 := HF.out.1
  have hf2 := HF.out.2
  have hf3 := HF2.out.1
  have hf4 := HF2.out.2
  clear hN hN2 hfa hfb hM hK HF HF2
  by_cases h1 : M < 0
  · by_cases h2 : 0 < K
    · go_enter Try.func9, Try.ntmps9
      go_wp2_with fail
      refine (awake_any _).mono ?_
      rintro e w1 ⟨rfl, hb⟩
      have B1 := Lib.hid hb
      have S1 := Lib.hid (HS.out.below hb)
      clear hb
      go_wp2_with fail
      refine (HN.out _).mono ?_
      rintro e w' ⟨rfl, rfl⟩
      go_wp2_with fail
      refine (HN2.out _).mono ?_
      rintro e w' ⟨rfl, rfl⟩
      have Ea := Lib.hid (own_empty w1)
      have Ca := Lib.hid (S1.out.below ((Below.refl _ _).alloc (Nat.le_refl _) (.cells #[] 40)))
      have ZAa : Hid ((0 + n) * 56 ≤ 140737488355328) := Lib.hid (by omega)
      have ZBa : Hid (w1.heap.size ≤ (w1.alloc (.cells #[] 40)).heap.size) := Lib.hid (by simp)
      go_wp2_with (first | (at_builtin; refine wpList_append_srcM rfl _ _ rfl w1.heap.size 0 _ [] rfl Ea.out _ n S rfl Ca.out ZAa.out ZBa.out ?_))
      intro va wa hown hgr hblk
      have hrow := own_of_row (S := S) (show va.ownsBy wa w1 n S from by simpa [Value.ownsBy] using hown) (by rcases hblk with h | h <;> exact ⟨_, h⟩)
      obtain ⟨ga, cza, rfl, hg, ho, hnc, hcm⟩ := hrow
      have Oa := Lib.hid ho
      have Ba := Lib.hid (B1.out.trans (Below.mono (((Below.refl w1.heap.size w1).alloc (Nat.le_refl _) (.cells #[] 40)).grown hgr (by simp) (by intro k hk; simp [Value.ownBlock] at hk; omega)) B1.out.size))
      have Ka := Lib.hid (show Below w1.heap.size w1 wa from ((Below.refl w1.heap.size w1).alloc (Nat.le_refl _) (.cells #[] 40)).grown hgr (by simp) (by intro k hk; simp [Value.ownBlock] at hk; omega))
      clear hown hgr hblk hg ho hnc hcm Ea Ca ZAa ZBa
      have hrun := runP_any (.slice (some ⟨ga, 0, none⟩) n cza) n gw M S wa Oa.out.min hn HGW.out (by omega)
      go_wp2_with fail
      refine hrun.mono ?_
      rintro e wb ⟨hb, h⟩
      have Bb := Lib.hid (Ba.out.trans (hb.mono Ba.out.size))
      have Sb := Lib.hid ((S1.out.below Ka.out).below hb)
      clear hb hrun
      rcases h with ⟨h0, gb, cb, rfl, _, ho, _, _⟩ | ⟨h0, rfl⟩
      · have Ob := Lib.hid ho
        have H0 := Lib.hid h0
        have hrun2 := runP_any (.slice (some ⟨gb, 0, none⟩) n cb) n gw (-K) (runR gw n S M).2 wb Ob.out.min hn HGW.out (by omega)
        have HR2 := Lib.hid hrun2
        have HON := Lib.hid (run_on (gw := gw) (n := n) (S := S) (M := M) (N := -K) h0 (by omega) (by omega))
        clear ho h0 hrun2
        go_wp2_with fail
        refine HR2.out.mono ?_
        rintro e wc ⟨hb, h⟩
        have Bc := Lib.hid (Bb.out.trans (hb.mono Bb.out.size))
        have Sc := Lib.hid (Sb.out.below hb)
        clear hb HR2
        rcases h with ⟨h1, gc, cc, rfl, _, ho, _, _⟩ | ⟨h1, rfl⟩
        · have Oc := Lib.hid ho
          have H1 := Lib.hid h1
          clear ho h1
          have Ed := Lib.hid (own_empty wc)
          have Cd := Lib.hid (Sc.out.below ((Below.refl _ _).alloc (Nat.le_refl _) (.cells #[] 40)))
          have ZAd : Hid ((0 + n) * 56 ≤ 140737488355328) := Lib.hid (by omega)
          have ZBd : Hid (wc.heap.size ≤ (wc.alloc (.cells #[] 40)).heap.size) := Lib.hid (by simp)
          go_wp2_with (first | (at_builtin; refine wpList_append_srcM rfl _ _ rfl wc.heap.size 0 _ [] rfl Ed.out _ n S rfl Cd.out ZAd.out ZBd.out ?_))
          intro va wd hown hgr hblk
          have hrow := own_of_row (S := S) (show va.ownsBy wd wc n S from by simpa [Value.ownsBy] using hown) (by rcases hblk with h | h <;> exact ⟨_, h⟩)
          obtain ⟨gd, czd, rfl, hg, ho, hnc, hcm⟩ := hrow
          have Od := Lib.hid ho
          have Bd := Lib.hid (Bc.out.trans (Below.mono (((Below.refl wc.heap.size wc).alloc (Nat.le_refl _) (.cells #[] 40)).grown hgr (by simp) (by intro k hk; simp [Value.ownBlock] at hk; omega)) Bc.out.size))
          have Kd := Lib.hid (show Below wc.heap.size wc wd from ((Below.refl wc.heap.size wc).alloc (Nat.le_refl _) (.cells #[] 40)).grown hgr (by simp) (by intro k hk; simp [Value.ownBlock] at hk; omega))
          clear hown hgr hblk hg ho hnc hcm Ed Cd ZAd ZBd
          have HMC := Lib.hid (Oc.out.min (c2 := cc))
          have HMD := Lib.hid (HMC.out.below Kd.out)
          have hrun3 := runP_any (.slice (some ⟨gd, 0, none⟩) n czd) n gw (M + -K) S wd Od.out.min hn HGW.out (by omega)
          go_wp2_with fail
          refine hrun3.mono ?_
          rintro e we ⟨hb, h⟩
          have Be := Lib.hid (Bd.out.trans (hb.mono Bd.out.size))
          have HME := Lib.hid (HMD.out.below hb)
          clear hb hrun3
          rcases h with ⟨h2, ge, ce, rfl, _, ho, _, _⟩ | ⟨h2, rfl⟩
          · have hsame := same_any (.slice (some ⟨gc, 0, none⟩) n cc) (.slice (some ⟨ge, 0, none⟩) n ce) n _ _ we HME.out ho.min (fun j _ => by rw [HON.out.2 h2]) (by omega)
            have HSM := Lib.hid hsame
            clear ho h2 hsame
            go_wp2_with (first | (go_at_call 23; refine HSM.out.mono ?_; rintro e wf ⟨rfl, ⟨md, rfl⟩⟩))
            go_ret
            exact ⟨rfl, below_drw Be.out _⟩
          · exact absurd (by rw [← HON.out.1]; exact H1.out) h2
        · have H1 := Lib.hid h1
          obtain ⟨E, hE⟩ : ∃ E, (runR gw n (runR gw n S M).2 (-K)).1 = E := ⟨_, rfl⟩
          rw [hE]
          have HE := Lib.hid hE
          clear h1 hE
          have Ed := Lib.hid (own_empty wc)
          have Cd := Lib.hid (Sc.out.below ((Below.refl _ _).alloc (Nat.le_refl _) (.cells #[] 40)))
          have ZAd : Hid ((0 + n) * 56 ≤ 140737488355328) := Lib.hid (by omega)
          have ZBd : Hid (wc.heap.size ≤ (wc.alloc (.cells #[] 40)).heap.size) := Lib.hid (by simp)
          go_wp2_with (first | (at_builtin; refine wpList_append_srcM rfl _ _ rfl wc.heap.size 0 _ [] rfl Ed.out _ n S rfl Cd.out ZAd.out ZBd.out ?_))
          intro va wd hown hgr hblk
          have hrow := own_of_row (S := S) (show va.ownsBy wd wc n S from by simpa [Value.ownsBy] using hown) (by rcases hblk with h | h <;> exact ⟨_, h⟩)
          obtain ⟨gd, czd, rfl, hg, ho, hnc, hcm⟩ := hrow
          have Od := Lib.hid ho
          have Bd := Lib.hid (Bc.out.trans (Below.mono (((Below.refl wc.heap.size wc).alloc (Nat.le_refl _) (.cells #[] 40)).grown hgr (by simp) (by intro k hk; simp [Value.ownBlock] at hk; omega)) Bc.out.size))
          have Kd := Lib.hid (show Below wc.heap.size wc wd from ((Below.refl wc.heap.size wc).alloc (Nat.le_refl _) (.cells #[] 40)).grown hgr (by simp) (by intro k hk; simp [Value.ownBlock] at hk; omega))
          clear hown hgr hblk hg ho hnc hcm Ed Cd ZAd ZBd
          have hrun3 := runP_any (.slice (some ⟨gd, 0, none⟩) n czd) n gw (M + -K) S wd Od.out.min hn HGW.out (by omega)
          go_wp2_with fail
          refine hrun3.mono ?_
          rintro e we ⟨hb, h⟩
          have Be := Lib.hid (Bd.out.trans (hb.mono Bd.out.size))
          clear hb hrun3
          rcases h with ⟨h2, ge, ce, rfl, _, ho, _, _⟩ | ⟨h2, rfl⟩
          · exact absurd (by rw [HON.out.1]; exact h2) H1.out
          · have hE2 : (runR gw n S (M + -K)).1 = E := by rw [← HON.out.1]; exact HE.out
            rw [hE2]
            have hsame := same_any (.slice none 0 0) (.slice none 0 0) 0 S S we (Or.inl ⟨rfl, rfl⟩) (Or.inl ⟨rfl, rfl⟩) (fun _ _ => rfl) (by omega)
            have HSM := Lib.hid hsame
            clear h2 hsame hE2
            go_wp2_with (first | (go_at_call 23; refine HSM.out.mono ?_; rintro e wf ⟨rfl, ⟨md, rfl⟩⟩))
            go_ret
            exact ⟨rfl, below_drw Be.out _⟩
      · have hne : ((runR gw n S M).1 != 0) = true := by rw [bne_iff_ne]; exact h0
        obtain ⟨E, hE⟩ : ∃ E, (runR gw n S M).1 = E := ⟨_, rfl⟩
        rw [hE] at hne ⊢
        clear h0 hE
        go_wp2
        go_ret
        exact ⟨rfl, Bb.out⟩
    · go_enter Try.func9, Try.ntmps9
      go_wp2_with fail
      refine (awake_any _).mono ?_
      rintro e w1 ⟨rfl, hb⟩
      have B1 := Lib.hid hb
      have S1 := Lib.hid (HS.out.below hb)
      clear hb
      go_wp2_with fail
      refine (HN.out _).mono ?_
      rintro e w' ⟨rfl, rfl⟩
      go_wp2_with fail
      refine (HN2.out _).mono ?_
      rintro e w' ⟨rfl, rfl⟩
      have Ea := Lib.hid (own_empty w1)
      have Ca := Lib.hid (S1.out.below ((Below.refl _ _).alloc (Nat.le_refl _) (.cells #[] 40)))
      have ZAa : Hid ((0 + n) * 56 ≤ 140737488355328) := Lib.hid (by omega)
      have ZBa : Hid (w1.heap.size ≤ (w1.alloc (.cells #[] 40)).heap.size) := Lib.hid (by simp)
      go_wp2_with (first | (at_builtin; refine wpList_append_srcM rfl _ _ rfl w1.heap.size 0 _ [] rfl Ea.out _ n S rfl Ca.out ZAa.out ZBa.out ?_))
      intro va wa hown hgr hblk
      have hrow := own_of_row (S := S) (show va.ownsBy wa w1 n S from by simpa [Value.ownsBy] using hown) (by rcases hblk with h | h <;> exact ⟨_, h⟩)
      obtain ⟨ga, cza, rfl, hg, ho, hnc, hcm⟩ := hrow
      have Oa := Lib.hid ho
      have Ba := Lib.hid (B1.out.trans (Below.mono (((Below.refl w1.heap.size w1).alloc (Nat.le_refl _) (.cells #[] 40)).grown hgr (by simp) (by intro k hk; simp [Value.ownBlock] at hk; omega)) B1.out.size))
      have Ka := Lib.hid (show Below w1.heap.size w1 wa from ((Below.refl w1.heap.size w1).alloc (Nat.le_refl _) (.cells #[] 40)).grown hgr (by simp) (by intro k hk; simp [Value.ownBlock] at hk; omega))
      clear hown hgr hblk hg ho hnc hcm Ea Ca ZAa ZBa
      have hrun := runP_any (.slice (some ⟨ga, 0, none⟩) n cza) n gw M S wa Oa.out.min hn HGW.out (by omega)
      go_wp2_with fail
      refine hrun.mono ?_
      rintro e wb ⟨hb, h⟩
      have Bb := Lib.hid (Ba.out.trans (hb.mono Ba.out.size))
      have Sb := Lib.hid ((S1.out.below Ka.out).below hb)
      clear hb hrun
      rcases h with ⟨h0, gb, cb, rfl, _, ho, _, _⟩ | ⟨h0, rfl⟩
      · have Ob := Lib.hid ho
        have H0 := Lib.hid h0
        have hrun2 := runP_any (.slice (some ⟨gb, 0, none⟩) n cb) n gw (K) (runR gw n S M).2 wb Ob.out.min hn HGW.out (by omega)
        have HR2 := Lib.hid hrun2
        have HON := Lib.hid (run_on (gw := gw) (n := n) (S := S) (M := M) (N := K) h0 (by omega) (by omega))
        clear ho h0 hrun2
        go_wp2_with fail
        refine HR2.out.mono ?_
        rintro e wc ⟨hb, h⟩
        have Bc := Lib.hid (Bb.out.trans (hb.mono Bb.out.size))
        have Sc := Lib.hid (Sb.out.below hb)
        clear hb HR2
        rcases h with ⟨h1, gc, cc, rfl, _, ho, _, _⟩ | ⟨h1, rfl⟩
        · have Oc := Lib.hid ho
          have H1 := Lib.hid h1
          clear ho h1
          have Ed := Lib.hid (own_empty wc)
          have Cd := Lib.hid (Sc.out.below ((Below.refl _ _).alloc (Nat.le_refl _) (.cells #[] 40)))
          have ZAd : Hid ((0 + n) * 56 ≤ 140737488355328) := Lib.hid (by omega)
          have ZBd : Hid (wc.heap.size ≤ (wc.alloc (.cells #[] 40)).heap.size) := Lib.hid (by simp)
          go_wp2_with (first | (at_builtin; refine wpList_append_srcM rfl _ _ rfl wc.heap.size 0 _ [] rfl Ed.out _ n S rfl Cd.out ZAd.out ZBd.out ?_))
          intro va wd hown hgr hblk
          have hrow := own_of_row (S := S) (show va.ownsBy wd wc n S from by simpa [Value.ownsBy] using hown) (by rcases hblk with h | h <;> exact ⟨_, h⟩)
          obtain ⟨gd, czd, rfl, hg, ho, hnc, hcm⟩ := hrow
          have Od := Lib.hid ho
          have Bd := Lib.hid (Bc.out.trans (Below.mono (((Below.refl wc.heap.size wc).alloc (Nat.le_refl _) (.cells #[] 40)).grown hgr (by simp) (by intro k hk; simp [Value.ownBlock] at hk; omega)) Bc.out.size))
          have Kd := Lib.hid (show Below wc.heap.size wc wd from ((Below.refl wc.heap.size wc).alloc (Nat.le_refl _) (.cells #[] 40)).grown hgr (by simp) (by intro k hk; simp [Value.ownBlock] at hk; omega))
          clear hown hgr hblk hg ho hnc hcm Ed Cd ZAd ZBd
          have HMC := Lib.hid (Oc.out.min (c2 := cc))
          have HMD := Lib.hid (HMC.out.below Kd.out)
          have hrun3 := runP_any (.slice (some ⟨gd, 0, none⟩) n czd) n gw (M + K) S wd Od.out.min hn HGW.out (by omega)
          go_wp2_with fail
          refine hrun3.mono ?_
          rintro e we ⟨hb, h⟩
          have Be := Lib.hid (Bd.out.trans (hb.mono Bd.out.size))
          have HME := Lib.hid (HMD.out.below hb)
          clear hb hrun3
          rcases h with ⟨h2, ge, ce, rfl, _, ho, _, _⟩ | ⟨h2, rfl⟩
          · have hsame := same_any (.slice (some ⟨gc, 0, none⟩) n cc) (.slice (some ⟨ge, 0, none⟩) n ce) n _ _ we HME.out ho.min (fun j _ => by rw [HON.out.2 h2]) (by omega)
            have HSM := Lib.hid hsame
            clear ho h2 hsame
            go_wp2_with (first | (go_at_call 23; refine HSM.out.mono ?_; rintro e wf ⟨rfl, ⟨md, rfl⟩⟩))
            go_ret
            exact ⟨rfl, below_drw Be.out _⟩
          · exact absurd (by rw [← HON.out.1]; exact H1.out) h2
        · have H1 := Lib.hid h1
          obtain ⟨E, hE⟩ : ∃ E, (runR gw n (runR gw n S M).2 (K)).1 = E := ⟨_, rfl⟩
          rw [hE]
          have HE := Lib.hid hE
          clear h1 hE
          have Ed := Lib.hid (own_empty wc)
          have Cd := Lib.hid (Sc.out.below ((Below.refl _ _).alloc (Nat.le_refl _) (.cells #[] 40)))
          have ZAd : Hid ((0 + n) * 56 ≤ 140737488355328) := Lib.hid (by omega)
          have ZBd : Hid (wc.heap.size ≤ (wc.alloc (.cells #[] 40)).heap.size) := Lib.hid (by simp)
          go_wp2_with (first | (at_builtin; refine wpList_append_srcM rfl _ _ rfl wc.heap.size 0 _ [] rfl Ed.out _ n S rfl Cd.out ZAd.out ZBd.out ?_))
          intro va wd hown hgr hblk
          have hrow := own_of_row (S := S) (show va.ownsBy wd wc n S from by simpa [Value.ownsBy] using hown) (by rcases hblk with h | h <;> exact ⟨_, h⟩)
          obtain ⟨gd, czd, rfl, hg, ho, hnc, hcm⟩ := hrow
          have Od := Lib.hid ho
          have Bd := Lib.hid (Bc.out.trans (Below.mono (((Below.refl wc.heap.size wc).alloc (Nat.le_refl _) (.cells #[] 40)).grown hgr (by simp) (by intro k hk; simp [Value.ownBlock] at hk; omega)) Bc.out.size))
          have Kd := Lib.hid (show Below wc.heap.size wc wd from ((Below.refl wc.heap.size wc).alloc (Nat.le_refl _) (.cells #[] 40)).grown hgr (by simp) (by intro k hk; simp [Value.ownBlock] at hk; omega))
          clear hown hgr hblk hg ho hnc hcm Ed Cd ZAd ZBd
          have hrun3 := runP_any (.slice (some ⟨gd, 0, none⟩) n czd) n gw (M + K) S wd Od.out.min hn HGW.out (by omega)
          go_wp2_with fail
          refine hrun3.mono ?_
          rintro e we ⟨hb, h⟩
          have Be := Lib.hid (Bd.out.trans (hb.mono Bd.out.size))
          clear hb hrun3
          rcases h with ⟨h2, ge, ce, rfl, _, ho, _, _⟩ | ⟨h2, rfl⟩
          · exact absurd (by rw [HON.out.1]; exact h2) H1.out
          · have hE2 : (runR gw n S (M + K)).1 = E := by rw [← HON.out.1]; exact HE.out
            rw [hE2]
            have hsame := same_any (.slice none 0 0) (.slice none 0 0) 0 S S we (Or.inl ⟨rfl, rfl⟩) (Or.inl ⟨rfl, rfl⟩) (fun _ _ => rfl) (by omega)
            have HSM := Lib.hid hsame
            clear h2 hsame hE2
            go_wp2_with (first | (go_at_call 23; refine HSM.out.mono ?_; rintro e wf ⟨rfl, ⟨md, rfl⟩⟩))
            go_ret
            exact ⟨rfl, below_drw Be.out _⟩
      · have hne : ((runR gw n S M).1 != 0) = true := by rw [bne_iff_ne]; exact h0
        obtain ⟨E, hE⟩ : ∃ E, (runR gw n S M).1 = E := ⟨_, rfl⟩
        rw [hE] at hne ⊢
        clear h0 hE
        go_wp2
        go_ret
        exact ⟨rfl, Bb.out⟩
  by_cases h2 : 0 < M
  · by_cases h3 : K < 0
    · go_enter Try.func9, Try.ntmps9
      go_wp2_with fail
      refine (awake_any _).mono ?_
      rintro e w1 ⟨rfl, hb⟩
      have B1 := Lib.hid hb
      have S1 := Lib.hid (HS.out.below hb)
      clear hb
      go_wp2_with fail
      refine (HN.out _).mono ?_
      rintro e w' ⟨rfl, rfl⟩
      go_wp2_with fail
      refine (HN2.out _).mono ?_
      rintro e w' ⟨rfl, rfl⟩
      have Ea := Lib.hid (own_empty w1)
      have Ca := Lib.hid (S1.out.below ((Below.refl _ _).alloc (Nat.le_refl _) (.cells #[] 40)))
      have ZAa : Hid ((0 + n) * 56 ≤ 140737488355328) := Lib.hid (by omega)
      have ZBa : Hid (w1.heap.size ≤ (w1.alloc (.cells #[] 40)).heap.size) := Lib.hid (by simp)
      go_wp2_with (first | (at_builtin; refine wpList_append_srcM rfl _ _ rfl w1.heap.size 0 _ [] rfl Ea.out _ n S rfl Ca.out ZAa.out ZBa.out ?_))
      intro va wa hown hgr hblk
      have hrow := own_of_row (S := S) (show va.ownsBy wa w1 n S from by simpa [Value.ownsBy] using hown) (by rcases hblk with h | h <;> exact ⟨_, h⟩)
      obtain ⟨ga, cza, rfl, hg, ho, hnc, hcm⟩ := hrow
      have Oa := Lib.hid ho
      have Ba := Lib.hid (B1.out.trans (Below.mono (((Below.refl w1.heap.size w1).alloc (Nat.le_refl _) (.cells #[] 40)).grown hgr (by simp) (by intro k hk; simp [Value.ownBlock] at hk; omega)) B1.out.size))
      have Ka := Lib.hid (show Below w1.heap.size w1 wa from ((Below.refl w1.heap.size w1).alloc (Nat.le_refl _) (.cells #[] 40)).grown hgr (by simp) (by intro k hk; simp [Value.ownBlock] at hk; omega))
      clear hown hgr hblk hg ho hnc hcm Ea Ca ZAa ZBa
      have hrun := runP_any (.slice (some ⟨ga, 0, none⟩) n cza) n gw M S wa Oa.out.min hn HGW.out (by omega)
      go_wp2_with fail
      refine hrun.mono ?_
      rintro e wb ⟨hb, h⟩
      have Bb := Lib.hid (Ba.out.trans (hb.mono Ba.out.size))
      have Sb := Lib.hid ((S1.out.below Ka.out).below hb)
      clear hb hrun
      rcases h with ⟨h0, gb, cb, rfl, _, ho, _, _⟩ | ⟨h0, rfl⟩
      · have Ob := Lib.hid ho
        have H0 := Lib.hid h0
        have hrun2 := runP_any (.slice (some ⟨gb, 0, none⟩) n cb) n gw (-K) (runR gw n S M).2 wb Ob.out.min hn HGW.out (by omega)
        have HR2 := Lib.hid hrun2
        have HON := Lib.hid (run_on (gw := gw) (n := n) (S := S) (M := M) (N := -K) h0 (by omega) (by omega))
        clear ho h0 hrun2
        go_wp2_with fail
        refine HR2.out.mono ?_
        rintro e wc ⟨hb, h⟩
        have Bc := Lib.hid (Bb.out.trans (hb.mono Bb.out.size))
        have Sc := Lib.hid (Sb.out.below hb)
        clear hb HR2
        rcases h with ⟨h1, gc, cc, rfl, _, ho, _, _⟩ | ⟨h1, rfl⟩
        · have Oc := Lib.hid ho
          have H1 := Lib.hid h1
          clear ho h1
          have Ed := Lib.hid (own_empty wc)
          have Cd := Lib.hid (Sc.out.below ((Below.refl _ _).alloc (Nat.le_refl _) (.cells #[] 40)))
          have ZAd : Hid ((0 + n) * 56 ≤ 140737488355328) := Lib.hid (by omega)
          have ZBd : Hid (wc.heap.size ≤ (wc.alloc (.cells #[] 40)).heap.size) := Lib.hid (by simp)
          go_wp2_with (first | (at_builtin; refine wpList_append_srcM rfl _ _ rfl wc.heap.size 0 _ [] rfl Ed.out _ n S rfl Cd.out ZAd.out ZBd.out ?_))
          intro va wd hown hgr hblk
          have hrow := own_of_row (S := S) (show va.ownsBy wd wc n S from by simpa [Value.ownsBy] using hown) (by rcases hblk with h | h <;> exact ⟨_, h⟩)
          obtain ⟨gd, czd, rfl, hg, ho, hnc, hcm⟩ := hrow
          have Od := Lib.hid ho
          have Bd := Lib.hid (Bc.out.trans (Below.mono (((Below.refl wc.heap.size wc).alloc (Nat.le_refl _) (.cells #[] 40)).grown hgr (by simp) (by intro k hk; simp [Value.ownBlock] at hk; omega)) Bc.out.size))
          have Kd := Lib.hid (show Below wc.heap.size wc wd from ((Below.refl wc.heap.size wc).alloc (Nat.le_refl _) (.cells #[] 40)).grown hgr (by simp) (by intro k hk; simp [Value.ownBlock] at hk; omega))
          clear hown hgr hblk hg ho hnc hcm Ed Cd ZAd ZBd
          have HMC := Lib.hid (Oc.out.min (c2 := cc))
          have HMD := Lib.hid (HMC.out.below Kd.out)
          have hrun3 := runP_any (.slice (some ⟨gd, 0, none⟩) n czd) n gw (M + -K) S wd Od.out.min hn HGW.out (by omega)
          go_wp2_with fail
          refine hrun3.mono ?_
          rintro e we ⟨hb, h⟩
          have Be := Lib.hid (Bd.out.trans (hb.mono Bd.out.size))
          have HME := Lib.hid (HMD.out.below hb)
          clear hb hrun3
          rcases h with ⟨h2, ge, ce, rfl, _, ho, _, _⟩ | ⟨h2, rfl⟩
          · have hsame := same_any (.slice (some ⟨gc, 0, none⟩) n cc) (.slice (some ⟨ge, 0, none⟩) n ce) n _ _ we HME.out ho.min (fun j _ => by rw [HON.out.2 h2]) (by omega)
            have HSM := Lib.hid hsame
            clear ho h2 hsame
            go_wp2_with (first | (go_at_call 23; refine HSM.out.mono ?_; rintro e wf ⟨rfl, ⟨md, rfl⟩⟩))
            go_ret
            exact ⟨rfl, below_drw Be.out _⟩
          · exact absurd (by rw [← HON.out.1]; exact H1.out) h2
        · have H1 := Lib.hid h1
          obtain ⟨E, hE⟩ : ∃ E, (runR gw n (runR gw n S M).2 (-K)).1 = E := ⟨_, rfl⟩
          rw [hE]
          have HE := Lib.hid hE
          clear h1 hE
          have Ed := Lib.hid (own_empty wc)
          have Cd := Lib.hid (Sc.out.below ((Below.refl _ _).alloc (Nat.le_refl _) (.cells #[] 40)))
          have ZAd : Hid ((0 + n) * 56 ≤ 140737488355328) := Lib.hid (by omega)
          have ZBd : Hid (wc.heap.size ≤ (wc.alloc (.cells #[] 40)).heap.size) := Lib.hid (by simp)
          go_wp2_with (first | (at_builtin; refine wpList_append_srcM rfl _ _ rfl wc.heap.size 0 _ [] rfl Ed.out _ n S rfl Cd.out ZAd.out ZBd.out ?_))
          intro va wd hown hgr hblk
          have hrow := own_of_row (S := S) (show va.ownsBy wd wc n S from by simpa [Value.ownsBy] using hown) (by rcases hblk with h | h <;> exact ⟨_, h⟩)
          obtain ⟨gd, czd, rfl, hg, ho, hnc, hcm⟩ := hrow
          have Od := Lib.hid ho
          have Bd := Lib.hid (Bc.out.trans (Below.mono (((Below.refl wc.heap.size wc).alloc (Nat.le_refl _) (.cells #[] 40)).grown hgr (by simp) (by intro k hk; simp [Value.ownBlock] at hk; omega)) Bc.out.size))
          have Kd := Lib.hid (show Below wc.heap.size wc wd from ((Below.refl wc.heap.size wc).alloc (Nat.le_refl _) (.cells #[] 40)).grown hgr (by simp) (by intro k hk; simp [Value.ownBlock] at hk; omega))
          clear hown hgr hblk hg ho hnc hcm Ed Cd ZAd ZBd
          have hrun3 := runP_any (.slice (some ⟨gd, 0, none⟩) n czd) n gw (M + -K) S wd Od.out.min hn HGW.out (by omega)
          go_wp2_with fail
          refine hrun3.mono ?_
          rintro e we ⟨hb, h⟩
          have Be := Lib.hid (Bd.out.trans (hb.mono Bd.out.size))
          clear hb hrun3
          rcases h with ⟨h2, ge, ce, rfl, _, ho, _, _⟩ | ⟨h2, rfl⟩
          · exact absurd (by rw [HON.out.1]; exact h2) H1.out
          · have hE2 : (runR gw n S (M + -K)).1 = E := by rw [← HON.out.1]; exact HE.out
            rw [hE2]
            have hsame := same_any (.slice none 0 0) (.slice none 0 0) 0 S S we (Or.inl ⟨rfl, rfl⟩) (Or.inl ⟨rfl, rfl⟩) (fun _ _ => rfl) (by omega)
            have HSM := Lib.hid hsame
            clear h2 hsame hE2
            go_wp2_with (first | (go_at_call 23; refine HSM.out.mono ?_; rintro e wf ⟨rfl, ⟨md, rfl⟩⟩))
            go_ret
            exact ⟨rfl, below_drw Be.out _⟩
      · have hne : ((runR gw n S M).1 != 0) = true := by rw [bne_iff_ne]; exact h0
        obtain ⟨E, hE⟩ : ∃ E, (runR gw n S M).1 = E := ⟨_, rfl⟩
        rw [hE] at hne ⊢
        clear h0 hE
        go_wp2
        go_ret
        exact ⟨rfl, Bb.out⟩
    · go_enter Try.func9, Try.ntmps9
      go_wp2_with fail
      refine (awake_any _).mono ?_
      rintro e w1 ⟨rfl, hb⟩
      have B1 := Lib.hid hb
      have S1 := Lib.hid (HS.out.below hb)
      clear hb
      go_wp2_with fail
      refine (HN.out _).mono ?_
      rintro e w' ⟨rfl, rfl⟩
      go_wp2_with fail
      refine (HN2.out _).mono ?_
      rintro e w' ⟨rfl, rfl⟩
      have Ea := Lib.hid (own_empty w1)
      have Ca := Lib.hid (S1.out.below ((Below.refl _ _).alloc (Nat.le_refl _) (.cells #[] 40)))
      have ZAa : Hid ((0 + n) * 56 ≤ 140737488355328) := Lib.hid (by omega)
      have ZBa : Hid (w1.heap.size ≤ (w1.alloc (.cells #[] 40)).heap.size) := Lib.hid (by simp)
      go_wp2_with (first | (at_builtin; refine wpList_append_srcM rfl _ _ rfl w1.heap.size 0 _ [] rfl Ea.out _ n S rfl Ca.out ZAa.out ZBa.out ?_))
      intro va wa hown hgr hblk
      have hrow := own_of_row (S := S) (show va.ownsBy wa w1 n S from by simpa [Value.ownsBy] using hown) (by rcases hblk with h | h <;> exact ⟨_, h⟩)
      obtain ⟨ga, cza, rfl, hg, ho, hnc, hcm⟩ := hrow
      have Oa := Lib.hid ho
      have Ba := Lib.hid (B1.out.trans (Below.mono (((Below.refl w1.heap.size w1).alloc (Nat.le_refl _) (.cells #[] 40)).grown hgr (by simp) (by intro k hk; simp [Value.ownBlock] at hk; omega)) B1.out.size))
      have Ka := Lib.hid (show Below w1.heap.size w1 wa from ((Below.refl w1.heap.size w1).alloc (Nat.le_refl _) (.cells #[] 40)).grown hgr (by simp) (by intro k hk; simp [Value.ownBlock] at hk; omega))
      clear hown hgr hblk hg ho hnc hcm Ea Ca ZAa ZBa
      have hrun := runP_any (.slice (some ⟨ga, 0, none⟩) n cza) n gw M S wa Oa.out.min hn HGW.out (by omega)
      go_wp2_with fail
      refine hrun.mono ?_
      rintro e wb ⟨hb, h⟩
      have Bb := Lib.hid (Ba.out.trans (hb.mono Ba.out.size))
      have Sb := Lib.hid ((S1.out.below Ka.out).below hb)
      clear hb hrun
      rcases h with ⟨h0, gb, cb, rfl, _, ho, _, _⟩ | ⟨h0, rfl⟩
      · have Ob := Lib.hid ho
        have H0 := Lib.hid h0
        have hrun2 := runP_any (.slice (some ⟨gb, 0, none⟩) n cb) n gw (K) (runR gw n S M).2 wb Ob.out.min hn HGW.out (by omega)
        have HR2 := Lib.hid hrun2
        have HON := Lib.hid (run_on (gw := gw) (n := n) (S := S) (M := M) (N := K) h0 (by omega) (by omega))
        clear ho h0 hrun2
        go_wp2_with fail
        refine HR2.out.mono ?_
        rintro e wc ⟨hb, h⟩
        have Bc := Lib.hid (Bb.out.trans (hb.mono Bb.out.size))
        have Sc := Lib.hid (Sb.out.below hb)
        clear hb HR2
        rcases h with ⟨h1, gc, cc, rfl, _, ho, _, _⟩ | ⟨h1, rfl⟩
        · have Oc := Lib.hid ho
          have H1 := Lib.hid h1
          clear ho h1
          have Ed := Lib.hid (own_empty wc)
          have Cd := Lib.hid (Sc.out.below ((Below.refl _ _).alloc (Nat.le_refl _) (.cells #[] 40)))
          have ZAd : Hid ((0 + n) * 56 ≤ 140737488355328) := Lib.hid (by omega)
          have ZBd : Hid (wc.heap.size ≤ (wc.alloc (.cells #[] 40)).heap.size) := Lib.hid (by simp)
          go_wp2_with (first | (at_builtin; refine wpList_append_srcM rfl _ _ rfl wc.heap.size 0 _ [] rfl Ed.out _ n S rfl Cd.out ZAd.out ZBd.out ?_))
          intro va wd hown hgr hblk
          have hrow := own_of_row (S := S) (show va.ownsBy wd wc n S from by simpa [Value.ownsBy] using hown) (by rcases hblk with h | h <;> exact ⟨_, h⟩)
          obtain ⟨gd, czd, rfl, hg, ho, hnc, hcm⟩ := hrow
          have Od := Lib.hid ho
          have Bd := Lib.hid (Bc.out.trans (Below.mono (((Below.refl wc.heap.size wc).alloc (Nat.le_refl _) (.cells #[] 40)).grown hgr (by simp) (by intro k hk; simp [Value.ownBlock] at hk; omega)) Bc.out.size))
          have Kd := Lib.hid (show Below wc.heap.size wc wd from ((Below.refl wc.heap.size wc).alloc (Nat.le_refl _) (.cells #[] 40)).grown hgr (by simp) (by intro k hk; simp [Value.ownBlock] at hk; omega))
          clear hown hgr hblk hg ho hnc hcm Ed Cd ZAd ZBd
          have HMC := Lib.hid (Oc.out.min (c2 := cc))
          have HMD := Lib.hid (HMC.out.below Kd.out)
          have hrun3 := runP_any (.slice (some ⟨gd, 0, none⟩) n czd) n gw (M + K) S wd Od.out.min hn HGW.out (by omega)
          go_wp2_with fail
          refine hrun3.mono ?_
          rintro e we ⟨hb, h⟩
          have Be := Lib.hid (Bd.out.trans (hb.mono Bd.out.size))
          have HME := Lib.hid (HMD.out.below hb)
          clear hb hrun3
          rcases h with ⟨h2, ge, ce, rfl, _, ho, _, _⟩ | ⟨h2, rfl⟩
          · have hsame := same_any (.slice (some ⟨gc, 0, none⟩) n cc) (.slice (some ⟨ge, 0, none⟩) n ce) n _ _ we HME.out ho.min (fun j _ => by rw [HON.out.2 h2]) (by omega)
            have HSM := Lib.hid hsame
            clear ho h2 hsame
            go_wp2_with (first | (go_at_call 23; refine HSM.out.mono ?_; rintro e wf ⟨rfl, ⟨md, rfl⟩⟩))
            go_ret
            exact ⟨rfl, below_drw Be.out _⟩
          · exact absurd (by rw [← HON.out.1]; exact H1.out) h2
        · have H1 := Lib.hid h1
          obtain ⟨E, hE⟩ : ∃ E, (runR gw n (runR gw n S M).2 (K)).1 = E := ⟨_, rfl⟩
          rw [hE]
          have HE := Lib.hid hE
          clear h1 hE
          have Ed := Lib.hid (own_empty wc)
          have Cd := Lib.hid (Sc.out.below ((Below.refl _ _).alloc (Nat.le_refl _) (.cells #[] 40)))
          have ZAd : Hid ((0 + n) * 56 ≤ 140737488355328) := Lib.hid (by omega)
          have ZBd : Hid (wc.heap.size ≤ (wc.alloc (.cells #[] 40)).heap.size) := Lib.hid (by simp)
          go_wp2_with (first | (at_builtin; refine wpList_append_srcM rfl _ _ rfl wc.heap.size 0 _ [] rfl Ed.out _ n S rfl Cd.out ZAd.out ZBd.out ?_))
          intro va wd hown hgr hblk
          have hrow := own_of_row (S := S) (show va.ownsBy wd wc n S from by simpa [Value.ownsBy] using hown) (by rcases hblk with h | h <;> exact ⟨_, h⟩)
          obtain ⟨gd, czd, rfl, hg, ho, hnc, hcm⟩ := hrow
          have Od := Lib.hid ho
          have Bd := Lib.hid (Bc.out.trans (Below.mono (((Below.refl wc.heap.size wc).alloc (Nat.le_refl _) (.cells #[] 40)).grown hgr (by simp) (by intro k hk; simp [Value.ownBlock] at hk; omega)) Bc.out.size))
          have Kd := Lib.hid (show Below wc.heap.size wc wd from ((Below.refl wc.heap.size wc).alloc (Nat.le_refl _) (.cells #[] 40)).grown hgr (by simp) (by intro k hk; simp [Value.ownBlock] at hk; omega))
          clear hown hgr hblk hg ho hnc hcm Ed Cd ZAd ZBd
          have hrun3 := runP_any (.slice (some ⟨gd, 0, none⟩) n czd) n gw (M + K) S wd Od.out.min hn HGW.out (by omega)
          go_wp2_with fail
          refine hrun3.mono ?_
          rintro e we ⟨hb, h⟩
          have Be := Lib.hid (Bd.out.trans (hb.mono Bd.out.size))
          clear hb hrun3
          rcases h with ⟨h2, ge, ce, rfl, _, ho, _, _⟩ | ⟨h2, rfl⟩
          · exact absurd (by rw [HON.out.1]; exact h2) H1.out
          · have hE2 : (runR gw n S (M + K)).1 = E := by rw [← HON.out.1]; exact HE.out
            rw [hE2]
            have hsame := same_any (.slice none 0 0) (.slice none 0 0) 0 S S we (Or.inl ⟨rfl, rfl⟩) (Or.inl ⟨rfl, rfl⟩) (fun _ _ => rfl) (by omega)
            have HSM := Lib.hid hsame
            clear h2 hsame hE2
            go_wp2_with (first | (go_at_call 23; refine HSM.out.mono ?_; rintro e wf ⟨rfl, ⟨md, rfl⟩⟩))
            go_ret
            exact ⟨rfl, below_drw Be.out _⟩
      · have hne : ((runR gw n S M).1 != 0) = true := by rw [bne_iff_ne]; exact h0
        obtain ⟨E, hE⟩ : ∃ E, (runR gw n S M).1 = E := ⟨_, rfl⟩
        rw [hE] at hne ⊢
        clear h0 hE
        go_wp2
        go_ret
        exact ⟨rfl, Bb.out⟩
  have hM0 : M = 0 := by omega
  subst hM0
  go_enter Try.func9, Try.ntmps9
  go_wp2_with fail
  refine (awake_any _).mono ?_
  rintro e w1 ⟨rfl, hb⟩
  have B1 := Lib.hid hb
  have S1 := Lib.hid (HS.out.below hb)
  clear hb
  go_wp2_with fail
  refine (HN.out _).mono ?_
  rintro e w' ⟨rfl, rfl⟩
  go_wp2_with fail
  refine (HN2.out _).mono ?_
  rintro e w' ⟨rfl, rfl⟩
  have Ea := Lib.hid (own_empty w1)
  have Ca := Lib.hid (S1.out.below ((Below.refl _ _).alloc (Nat.le_refl _) (.cells #[] 40)))
  have ZAa : Hid ((0 + n) * 56 ≤ 140737488355328) := Lib.hid (by omega)
  have ZBa : Hid (w1.heap.size ≤ (w1.alloc (.cells #[] 40)).heap.size) := Lib.hid (by simp)
  go_wp2_with (first | (at_builtin; refine wpList_append_srcM rfl _ _ rfl w1.heap.size 0 _ [] rfl Ea.out _ n S rfl Ca.out ZAa.out ZBa.out ?_))
  intro va wa hown hgr hblk
  have hrow := own_of_row (S := S) (show va.ownsBy wa w1 n S from by simpa [Value.ownsBy] using hown) (by rcases hblk with h | h <;> exact ⟨_, h⟩)
  obtain ⟨ga, cza, rfl, hg, ho, hnc, hcm⟩ := hrow
  have Oa := Lib.hid ho
  have Ba := Lib.hid (B1.out.trans (Below.mono (((Below.refl w1.heap.size w1).alloc (Nat.le_refl _) (.cells #[] 40)).grown hgr (by simp) (by intro k hk; simp [Value.ownBlock] at hk; omega)) B1.out.size))
  have Ka := Lib.hid (show Below w1.heap.size w1 wa from ((Below.refl w1.heap.size w1).alloc (Nat.le_refl _) (.cells #[] 40)).grown hgr (by simp) (by intro k hk; simp [Value.ownBlock] at hk; omega))
  clear hown hgr hblk hg ho hnc hcm Ea Ca ZAa ZBa
  have hrun := runP_any (.slice (some ⟨ga, 0, none⟩) n cza) n gw 0 S wa Oa.out.min hn HGW.out (by omega)
  go_wp2_with fail
  refine hrun.mono ?_
  rintro e wb ⟨hb, h⟩
  have Bb := Lib.hid (Ba.out.trans (hb.mono Ba.out.size))
  have Sb := Lib.hid ((S1.out.below Ka.out).below hb)
  clear hb hrun
  rcases h with ⟨h0, gb, cb, rfl, _, ho, _, _⟩ | ⟨h0, rfl⟩
  · have Ob := Lib.hid ho
    have H0 := Lib.hid h0
    have hrun2 := runP_any (.slice (some ⟨gb, 0, none⟩) n cb) n gw (K) (runR gw n S 0).2 wb Ob.out.min hn HGW.out (by omega)
    have HR2 := Lib.hid hrun2
    have hon0 := run_on (gw := gw) (n := n) (S := S) (M := 0) (N := K) h0 (by omega) (by omega)
    rw [Int.zero_add] at hon0
    have HON := Lib.hid hon0
    clear hon0
    clear ho h0 hrun2
    go_wp2_with fail
    refine HR2.out.mono ?_
    rintro e wc ⟨hb, h⟩
    have Bc := Lib.hid (Bb.out.trans (hb.mono Bb.out.size))
    have Sc := Lib.hid (Sb.out.below hb)
    clear hb HR2
    rcases h with ⟨h1, gc, cc, rfl, _, ho, _, _⟩ | ⟨h1, rfl⟩
    · have Oc := Lib.hid ho
      have H1 := Lib.hid h1
      clear ho h1
      have Ed := Lib.hid (own_empty wc)
      have Cd := Lib.hid (Sc.out.below ((Below.refl _ _).alloc (Nat.le_refl _) (.cells #[] 40)))
      have ZAd : Hid ((0 + n) * 56 ≤ 140737488355328) := Lib.hid (by omega)
      have ZBd : Hid (wc.heap.size ≤ (wc.alloc (.cells #[] 40)).heap.size) := Lib.hid (by simp)
      go_wp2_with (first | (at_builtin; refine wpList_append_srcM rfl _ _ rfl wc.heap.size 0 _ [] rfl Ed.out _ n S rfl Cd.out ZAd.out ZBd.out ?_))
      intro va wd hown hgr hblk
      have hrow := own_of_row (S := S) (show va.ownsBy wd wc n S from by simpa [Value.ownsBy] using hown) (by rcases hblk with h | h <;> exact ⟨_, h⟩)
      obtain ⟨gd, czd, rfl, hg, ho, hnc, hcm⟩ := hrow
      have Od := Lib.hid ho
      have Bd := Lib.hid (Bc.out.trans (Below.mono (((Below.refl wc.heap.size wc).alloc (Nat.le_refl _) (.cells #[] 40)).grown hgr (by simp) (by intro k hk; simp [Value.ownBlock] at hk; omega)) Bc.out.size))
      have Kd := Lib.hid (show Below wc.heap.size wc wd from ((Below.refl wc.heap.size wc).alloc (Nat.le_refl _) (.cells #[] 40)).grown hgr (by simp) (by intro k hk; simp [Value.ownBlock] at hk; omega))
      clear hown hgr hblk hg ho hnc hcm Ed Cd ZAd ZBd
      have HMC := Lib.hid (Oc.out.min (c2 := cc))
      have HMD := Lib.hid (HMC.out.below Kd.out)
      have hrun3 := runP_any (.slice (some ⟨gd, 0, none⟩) n czd) n gw K S wd Od.out.min hn HGW.out (by omega)
      go_wp2_with fail
      refine hrun3.mono ?_
      rintro e we ⟨hb, h⟩
      have Be := Lib.hid (Bd.out.trans (hb.mono Bd.out.size))
      have HME := Lib.hid (HMD.out.below hb)
      clear hb hrun3
      rcases h with ⟨h2, ge, ce, rfl, _, ho, _, _⟩ | ⟨h2, rfl⟩
      · have hsame := same_any (.slice (some ⟨gc, 0, none⟩) n cc) (.slice (some ⟨ge, 0, none⟩) n ce) n _ _ we HME.out ho.min (fun j _ => by rw [HON.out.2 h2]) (by omega)
        have HSM := Lib.hid hsame
        clear ho h2 hsame
        go_wp2_with (first | (go_at_call 23; refine HSM.out.mono ?_; rintro e wf ⟨rfl, ⟨md, rfl⟩⟩))
        go_ret
        exact ⟨rfl, below_drw Be.out _⟩
      · exact absurd (by rw [← HON.out.1]; exact H1.out) h2
    · have H1 := Lib.hid h1
      obtain ⟨E, hE⟩ : ∃ E, (runR gw n (runR gw n S 0).2 (K)).1 = E := ⟨_, rfl⟩
      rw [hE]
      have HE := Lib.hid hE
      clear h1 hE
      have Ed := Lib.hid (own_empty wc)
      have Cd := Lib.hid (Sc.out.below ((Below.refl _ _).alloc (Nat.le_refl _) (.cells #[] 40)))
      have ZAd : Hid ((0 + n) * 56 ≤ 140737488355328) := Lib.hid (by omega)
      have ZBd : Hid (wc.heap.size ≤ (wc.alloc (.cells #[] 40)).heap.size) := Lib.hid (by simp)
      go_wp2_with (first | (at_builtin; refine wpList_append_srcM rfl _ _ rfl wc.heap.size 0 _ [] rfl Ed.out _ n S rfl Cd.out ZAd.out ZBd.out ?_))
      intro va wd hown hgr hblk
      have hrow := own_of_row (S := S) (show va.ownsBy wd wc n S from by simpa [Value.ownsBy] using hown) (by rcases hblk with h | h <;> exact ⟨_, h⟩)
      obtain ⟨gd, czd, rfl, hg, ho, hnc, hcm⟩ := hrow
      have Od := Lib.hid ho
      have Bd := Lib.hid (Bc.out.trans (Below.mono (((Below.refl wc.heap.size wc).alloc (Nat.le_refl _) (.cells #[] 40)).grown hgr (by simp) (by intro k hk; simp [Value.ownBlock] at hk; omega)) Bc.out.size))
      have Kd := Lib.hid (show Below wc.heap.size wc wd from ((Below.refl wc.heap.size wc).alloc (Nat.le_refl _) (.cells #[] 40)).grown hgr (by simp) (by intro k hk; simp [Value.ownBlock] at hk; omega))
      clear hown hgr hblk hg ho hnc hcm Ed Cd ZAd ZBd
      have hrun3 := runP_any (.slice (some ⟨gd, 0, none⟩) n czd) n gw K S wd Od.out.min hn HGW.out (by omega)
      go_wp2_with fail
      refine hrun3.mono ?_
      rintro e we ⟨hb, h⟩
      have Be := Lib.hid (Bd.out.trans (hb.mono Bd.out.size))
      clear hb hrun3
      rcases h with ⟨h2, ge, ce, rfl, _, ho, _, _⟩ | ⟨h2, rfl⟩
      · exact absurd (by rw [HON.out.1]; exact h2) H1.out
      · have hE2 : (runR gw n S K).1 = E := by rw [← HON.out.1]; exact HE.out
        rw [hE2]
        have hsame := same_any (.slice none 0 0) (.slice none 0 0) 0 S S we (Or.inl ⟨rfl, rfl⟩) (Or.inl ⟨rfl, rfl⟩) (fun _ _ => rfl) (by omega)
        have HSM := Lib.hid hsame
        clear h2 hsame hE2
        go_wp2_with (first | (go_at_call 23; refine HSM.out.mono ?_; rintro e wf ⟨rfl, ⟨md, rfl⟩⟩))
        go_ret
        exact ⟨rfl, below_drw Be.out _⟩
  · have hne : ((runR gw n S 0).1 != 0) = true := by rw [bne_iff_ne]; exact h0
    obtain ⟨E, hE⟩ : ∃ E, (runR gw n S 0).1 = E := ⟨_, rfl⟩
    rw [hE] at hne ⊢
    clear h0 hE
    go_wp2
    go_ret
    exact ⟨rfl, Bb.out⟩
end Go.Proofs.Ytjapohjfheielaa
