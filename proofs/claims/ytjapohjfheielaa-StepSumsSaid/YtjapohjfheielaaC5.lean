/- Walks: Run, the program's and the reference's. Conditions: the masses lie in memory. -/
import Derived.Test.YtjapohjfheielaaD2
import Derived.Test.YtjapohjfheielaaC1
import Derived.Test.YtjapohjfheielaaC3
import Derived.Test.YtjapohjfheielaaC4
namespace Go.Proofs.Ytjapohjfheielaa
open Go.RowKit
open Ieee (FinW V dR big double wordOf deepD)

/-- what Run leaves: the error and, where there is none, new masses -/
def RunPost (gw n : Nat) (S : Nat → Int) (N : Int) (w : World) (e : Ending) (w' : World) : Prop :=
  Below w.heap.size w w' ∧ (((runR gw n S N).1 = 0 ∧ ∃ g cap, e = .returned (.tuple #[.slice (some ⟨g, 0, none⟩) n cap, .int .i64 0]) ∧ w.heap.size ≤ g ∧ Own w' g n cap (runR gw n S N).2 ∧ n ≤ cap ∧ cap ≤ maxLen) ∨
    ((runR gw n S N).1 ≠ 0 ∧ e = .returned (.tuple #[.slice none 0 0, .int .i64 (runR gw n S N).1])))
theorem run_bad {gw n : Nat} {S : Nat → Int} {N E : Int} {w w' : World} (h : runR gw n S N = (E, S)) (hE : E ≠ 0) (hb : Below w.heap.size w w') : RunPost gw n S N w (.returned (.tuple #[.slice none 0 0, .int .i64 E])) w' :=
  ⟨hb, Or.inr ⟨by rw [h]; exact hE, by rw [h]⟩⟩
theorem run_good {gw n g cap : Nat} {S T : Nat → Int} {N : Int} {w w' : World} (h : runR gw n S N = (0, T)) (hb : Below w.heap.size w w') (hg : w.heap.size ≤ g) (ho : Own w' g n cap T) (hn : n ≤ cap) (hm : cap ≤ maxLen) : RunPost gw n S N w (.returned (.tuple #[.slice (some ⟨g, 0, none⟩) n cap, .int .i64 0])) w' :=
  ⟨hb, Or.inl ⟨by rw [h], g, cap, rfl, hg, by rw [h]; exact ho, hn, hm⟩⟩
theorem step_bad1 {gw n : Nat} {h : Int} {S T : Nat → Int} {s m : Nat} (hr : runO gw h n S s = some T) (hs : s < m) (hb : ¬ okAll n (driftS h T)) : runO gw h n S m = none :=
  runO_none (s := s + 1) (by show (runO gw h n S s).bind _ = none; rw [hr]; show stepO gw h n T = none; unfold stepO; rw [if_neg hb]) m hs
theorem step_bad2 {gw n : Nat} {h : Int} {S T : Nat → Int} {s m : Nat} (hr : runO gw h n S s = some T) (hs : s < m) (h1 : okAll n (driftS h T)) (hb : ¬ okAll n (kickS gw h n (driftS h T))) : runO gw h n S m = none :=
  runO_none (s := s + 1) (by show (runO gw h n S s).bind _ = none; rw [hr]; show stepO gw h n T = none; unfold stepO; rw [if_pos h1, if_neg hb]) m hs
theorem step_bad3 {gw n : Nat} {h : Int} {S T : Nat → Int} {s m : Nat} (hr : runO gw h n S s = some T) (hs : s < m) (h1 : okAll n (driftS h T)) (h2 : okAll n (kickS gw h n (driftS h T))) (hb : ¬ okAll n (driftS h (kickS gw h n (driftS h T)))) : runO gw h n S m = none :=
  runO_none (s := s + 1) (by show (runO gw h n S s).bind _ = none; rw [hr]; show stepO gw h n T = none; unfold stepO; rw [if_pos h1, if_pos h2, if_neg hb]) m hs
theorem step_good {gw n : Nat} {h : Int} {S T : Nat → Int} {s : Nat} (hr : runO gw h n S s = some T) (h1 : okAll n (driftS h T)) (h2 : okAll n (kickS gw h n (driftS h T))) (h3 : okAll n (driftS h (kickS gw h n (driftS h T)))) : runO gw h n S (s + 1) = some (driftS h (kickS gw h n (driftS h T))) := by
  show (runO gw h n S s).bind _ = _; rw [hr]; show stepO gw h n T = _; unfold stepO; rw [if_pos h1, if_pos h2, if_pos h3]
theorem runO_start {gw : Nat} {h : Int} {n : Nat} {S : Nat → Int} : runO gw h n S 0 = some S := rfl
theorem chk_140 {n : Nat} {S : Nat → Int} (h : n ≤ 8) (hb : ¬ okAll n S) : chk n S = 140 := by unfold chk; rw [if_neg (by omega), if_neg hb]

attribute [local irreducible] Ieee.V Ieee.Format.rnd fv Ieee.big Ieee.deepD flW sqW hU rN pk kickAt kickS driftS runR runO stepO chk

set_option maxHeartbeats 4000000 in
theorem runP_any (v : Value) (n gw : Nat) (N : Int) (S : Nat → Int) (w : World) (hv : MIn w v n S) (hn : n ≤ 4398046511104) (hgw : gw < 18446744073709551616) (hN : -9223372036854775808 ≤ N ∧ N ≤ 9223372036854775807) :
    Calls Try.prog 21 #[v, .float .f64 gw, .int .i64 N] w (RunPost gw n S N w) := by
  have HV := Lib.hid hv
  have HGW := Lib.hid hgw
  have HNN := Lib.hid hN
  have hck := checkP_any v n S w hv hn
  obtain ⟨A, cap, rfl⟩ := hv.form
  clear hv hgw
  obtain ⟨hN1, hN2⟩ := hN
  by_cases hz : chk n S = 0
  · have HCK := Lib.hid hz
    have H8 := Lib.hid (chk_zero.1 hz).1
    have HOK := Lib.hid (chk_zero.1 hz).2
    rw [hz] at hck
    have HC := Lib.hid hck
    clear hz hck
    obtain ⟨b1, hb1⟩ : ∃ b, geB gw = b := ⟨_, rfl⟩
    obtain ⟨b2, hb2⟩ : ∃ b, leB gw = b := ⟨_, rfl⟩
    have hge : (o64 gw 0 == some .gt || o64 gw 0 == some .eq) = b1 := hb1
    have hle : (o64 gw 4787326403894837248 == some .lt || o64 gw 4787326403894837248 == some .eq) = b2 := hb2
    have HB1 := Lib.hid hb1
    have HB2 := Lib.hid hb2
    clear hb1 hb2
    by_cases hlo : N < -4096
    · go_enter Try.func21, Try.ntmps21
      go_wp2_with (first | (go_at_call 18; refine HC.out.mono ?_; rintro e w' ⟨rfl, rfl⟩))
      go_ret2
      exact run_bad (runR_arg HCK.out (Or.inl hlo)) (by omega) (Below.refl _ _)
    by_cases hhi : 4096 < N
    · go_enter Try.func21, Try.ntmps21
      go_wp2_with (first | (go_at_call 18; refine HC.out.mono ?_; rintro e w' ⟨rfl, rfl⟩))
      go_ret2
      exact run_bad (runR_arg HCK.out (Or.inr (Or.inl hhi))) (by omega) (Below.refl _ _)
    cases b1
    · go_enter Try.func21, Try.ntmps21
      go_wp2_with (first | (go_at_call 18; refine HC.out.mono ?_; rintro e w' ⟨rfl, rfl⟩))
      go_ret2
      exact run_bad (runR_arg HCK.out (Or.inr (Or.inr (Or.inl HB1.out)))) (by omega) (Below.refl _ _)
    cases b2
    · go_enter Try.func21, Try.ntmps21
      go_wp2_with (first | (go_at_call 18; refine HC.out.mono ?_; rintro e w' ⟨rfl, rfl⟩))
      go_ret2
      exact run_bad (runR_arg HCK.out (Or.inr (Or.inr (Or.inr HB2.out)))) (by omega) (Below.refl _ _)
    have HG := Lib.hid (g_fin HGW.out HB1.out HB2.out)
    have HA : Hid (¬ (N < -4096 ∨ 4096 < N ∨ geB gw = false ∨ leB gw = false)) := Lib.hid (by rw [HB1.out, HB2.out]; simp; omega)
    have HE1 := Lib.hid (own_empty w)
    have HV1 := Lib.hid (HV.out.below ((Below.refl _ _).alloc (Nat.le_refl _) (.cells #[] 40)))
    by_cases hneg : N < 0
    · obtain ⟨m, hm⟩ : ∃ m : Nat, N = -(m : Int) := ⟨N.natAbs, by omega⟩
      have HM : Hid (sgnN N = -1 ∧ N.natAbs = m) := Lib.hid ⟨by unfold sgnN; rw [if_pos hneg], by omega⟩
      have hm1 : 1 ≤ m := by omega
      have hm2 : m ≤ 4096 := by omega
      have hNm : -N = (m : Int) := by omega
      clear hm
      go_enter Try.func21, Try.ntmps21
      go_wp2_with (first | (go_at_call 18; refine HC.out.mono ?_; rintro e w' ⟨rfl, rfl⟩) | (at_builtin; refine wpList_append_srcM rfl _ _ rfl w.heap.size 0 _ [] rfl HE1.out _ n S rfl HV1.out ?c1 ?c2 ?_))
      case c1 => have := H8.out; omega
      case c2 => first | (simp; done) | (simp; omega) | omega
      intro va wa hown hgr hblk
      have hrow := own_of_row (S := S) (show wa.ownsRow w.heap.size 40 7 va n (vals n S) from by simpa using hown) (by rcases hblk with h | h <;> exact ⟨_, h⟩)
      obtain ⟨gb, cb, rfl, hgb, howna, hncap, hcapm⟩ := hrow
      have HOA := Lib.hid howna
      have HBA := Lib.hid (((Below.refl w.heap.size w).alloc (Nat.le_refl _) (.cells #[] 40)).grown hgr (by simp) (by intro k hk; simp [Value.ownBlock] at hk; omega))
      have HCM := Lib.hid (And.intro hgb (And.intro hncap hcapm))
      clear hown hgr hblk howna hgb hncap hcapm
      go_wp2_with fail
      go_loopw [39] (fun vs wr => ∃ s : Nat, s ≤ m ∧ vs = .int .i64 s ∧ ∃ T, runO gw (-1) n S s = some T ∧ Own wr gb n cb T ∧ Below w.heap.size w wr) (fun vs _ => m - (intOf vs).toNat)
      case atStart => exact ⟨0, Nat.zero_le _, rfl, S, runO_start, HOA.out, HBA.out⟩
      case round =>
        obtain ⟨s, hs, rfl, T, hr, ho, hb⟩ := hrel
        have HR := Lib.hid hr
        have HO := Lib.hid ho
        have HB := Lib.hid hb
        have HTK := Lib.hid (runO_ok HOK.out s hr)
        clear hr ho hb
        by_cases hsm : s < m
        · have hd1 := fun u (hu : Own u gb n cb T) => driftP_any gb n cb T (-1) u hu H8.out HTK.out (by first | exact Or.inl rfl | exact Or.inr rfl)
          have HD1 := Lib.hid hd1
          clear hd1
          go_wp2_with fail
          refine (HD1.out _ HO.out).mono ?_
          rintro e w1 ⟨rfl, ho1, ht1⟩
          have O1 := Lib.hid ho1
          have B1 := Lib.hid (ht1.below HB.out HCM.out.1 HB.out.size)
          clear ho1 ht1
          by_cases k1 : okAll n (driftS (-1) T)
          · have K1 := Lib.hid k1
            have c1 := checkP_any (.slice (some ⟨gb, 0, none⟩) n cb) n (driftS (-1) T) w1 O1.out.min (by have := H8.out; omega)
            rw [chk_good H8.out k1] at c1
            clear k1
            go_wp2_with fail
            refine c1.mono ?_
            rintro e w' ⟨rfl, rfl⟩
            clear c1
            have hk := kickP_any gb n cb gw (driftS (-1) T) (-1) w1 O1.out H8.out K1.out (by first | exact Or.inl rfl | exact Or.inr rfl) HG.out.1 HG.out.2.1 HG.out.2.2
            go_wp2_with fail
            refine hk.mono ?_
            rintro e w2 ⟨rfl, ho2, ht2⟩
            have O2 := Lib.hid ho2
            have B2 := Lib.hid (ht2.below B1.out HCM.out.1 B1.out.size)
            clear ho2 ht2 hk
            by_cases k2 : okAll n (kickS gw (-1) n (driftS (-1) T))
            · have K2 := Lib.hid k2
              have c2 := checkP_any (.slice (some ⟨gb, 0, none⟩) n cb) n (kickS gw (-1) n (driftS (-1) T)) w2 O2.out.min (by have := H8.out; omega)
              rw [chk_good H8.out k2] at c2
              clear k2
              go_wp2_with fail
              refine c2.mono ?_
              rintro e w' ⟨rfl, rfl⟩
              clear c2
              have hd := driftP_any gb n cb (kickS gw (-1) n (driftS (-1) T)) (-1) w2 O2.out H8.out K2.out (by first | exact Or.inl rfl | exact Or.inr rfl)
              go_wp2_with fail
              refine hd.mono ?_
              rintro e w3 ⟨rfl, ho3, ht3⟩
              have O3 := Lib.hid ho3
              have B3 := Lib.hid (ht3.below B2.out HCM.out.1 B2.out.size)
              clear ho3 ht3 hd
              by_cases k3 : okAll n (driftS (-1) (kickS gw (-1) n (driftS (-1) T)))
              · have K3 := Lib.hid k3
                have c3 := checkP_any (.slice (some ⟨gb, 0, none⟩) n cb) n (driftS (-1) (kickS gw (-1) n (driftS (-1) T))) w3 O3.out.min (by have := H8.out; omega)
                rw [chk_good H8.out k3] at c3
                clear k3
                go_wp2_with fail
                refine c3.mono ?_
                rintro e w' ⟨rfl, rfl⟩
                clear c3
                go_wp2
                go_roundw
                case rel => exact ⟨s + 1, by omega, by go_num, _, step_good HR.out K1.out K2.out K3.out, O3.out, B3.out⟩
                case measure => first | (simp [intOf]; done) | (simp [intOf]; omega)
              · have K3 := Lib.hid k3
                have c3 := checkP_any (.slice (some ⟨gb, 0, none⟩) n cb) n (driftS (-1) (kickS gw (-1) n (driftS (-1) T))) w3 O3.out.min (by have := H8.out; omega)
                rw [chk_140 H8.out k3] at c3
                clear k3
                go_wp2_with fail
                refine c3.mono ?_
                rintro e w' ⟨rfl, rfl⟩
                clear c3
                go_wp2
                go_ret2
                exact run_bad (runR_none HCK.out HA.out (by rw [HM.out.1, HM.out.2]; exact step_bad3 HR.out hsm K1.out K2.out K3.out)) (by omega) B3.out
            · have K2 := Lib.hid k2
              have c2 := checkP_any (.slice (some ⟨gb, 0, none⟩) n cb) n (kickS gw (-1) n (driftS (-1) T)) w2 O2.out.min (by have := H8.out; omega)
              rw [chk_140 H8.out k2] at c2
              clear k2
              go_wp2_with fail
              refine c2.mono ?_
              rintro e w' ⟨rfl, rfl⟩
              clear c2
              go_wp2
              go_ret2
              exact run_bad (runR_none HCK.out HA.out (by rw [HM.out.1, HM.out.2]; exact step_bad2 HR.out hsm K1.out K2.out)) (by omega) B2.out
          · have K1 := Lib.hid k1
            have c1 := checkP_any (.slice (some ⟨gb, 0, none⟩) n cb) n (driftS (-1) T) w1 O1.out.min (by have := H8.out; omega)
            rw [chk_140 H8.out k1] at c1
            clear k1
            go_wp2_with fail
            refine c1.mono ?_
            rintro e w' ⟨rfl, rfl⟩
            clear c1
            go_wp2
            go_ret2
            exact run_bad (runR_none HCK.out HA.out (by rw [HM.out.1, HM.out.2]; exact step_bad1 HR.out hsm K1.out)) (by omega) B1.out
        · have hsm2 : s = m := by omega
          subst hsm2
          go_wp2
          go_ret2
          exact run_good (runR_some HCK.out HA.out (by rw [HM.out.1, HM.out.2]; exact HR.out)) HB.out HCM.out.1 HO.out HCM.out.2.1 HCM.out.2.2
    · obtain ⟨m, hm⟩ : ∃ m : Nat, N = (m : Int) := ⟨N.natAbs, by omega⟩
      have HM : Hid (sgnN N = 1 ∧ N.natAbs = m) := Lib.hid ⟨by unfold sgnN; rw [if_neg hneg], by omega⟩
      have hm2 : m ≤ 4096 := by omega
      subst hm
      go_enter Try.func21, Try.ntmps21
      go_wp2_with (first | (go_at_call 18; refine HC.out.mono ?_; rintro e w' ⟨rfl, rfl⟩) | (at_builtin; refine wpList_append_srcM rfl _ _ rfl w.heap.size 0 _ [] rfl HE1.out _ n S rfl HV1.out ?c1 ?c2 ?_))
      case c1 => have := H8.out; omega
      case c2 => first | (simp; done) | (simp; omega) | omega
      intro va wa hown hgr hblk
      have hrow := own_of_row (S := S) (show wa.ownsRow w.heap.size 40 7 va n (vals n S) from by simpa using hown) (by rcases hblk with h | h <;> exact ⟨_, h⟩)
      obtain ⟨gb, cb, rfl, hgb, howna, hncap, hcapm⟩ := hrow
      have HOA := Lib.hid howna
      have HBA := Lib.hid (((Below.refl w.heap.size w).alloc (Nat.le_refl _) (.cells #[] 40)).grown hgr (by simp) (by intro k hk; simp [Value.ownBlock] at hk; omega))
      have HCM := Lib.hid (And.intro hgb (And.intro hncap hcapm))
      clear hown hgr hblk howna hgb hncap hcapm
      go_wp2_with fail
      go_loopw [39] (fun vs wr => ∃ s : Nat, s ≤ m ∧ vs = .int .i64 s ∧ ∃ T, runO gw (1) n S s = some T ∧ Own wr gb n cb T ∧ Below w.heap.size w wr) (fun vs _ => m - (intOf vs).toNat)
      case atStart => exact ⟨0, Nat.zero_le _, rfl, S, runO_start, HOA.out, HBA.out⟩
      case round =>
        obtain ⟨s, hs, rfl, T, hr, ho, hb⟩ := hrel
        have HR := Lib.hid hr
        have HO := Lib.hid ho
        have HB := Lib.hid hb
        have HTK := Lib.hid (runO_ok HOK.out s hr)
        clear hr ho hb
        by_cases hsm : s < m
        · have hd1 := fun u (hu : Own u gb n cb T) => driftP_any gb n cb T (1) u hu H8.out HTK.out (by first | exact Or.inl rfl | exact Or.inr rfl)
          have HD1 := Lib.hid hd1
          clear hd1
          go_wp2_with fail
          refine (HD1.out _ HO.out).mono ?_
          rintro e w1 ⟨rfl, ho1, ht1⟩
          have O1 := Lib.hid ho1
          have B1 := Lib.hid (ht1.below HB.out HCM.out.1 HB.out.size)
          clear ho1 ht1
          by_cases k1 : okAll n (driftS (1) T)
          · have K1 := Lib.hid k1
            have c1 := checkP_any (.slice (some ⟨gb, 0, none⟩) n cb) n (driftS (1) T) w1 O1.out.min (by have := H8.out; omega)
            rw [chk_good H8.out k1] at c1
            clear k1
            go_wp2_with fail
            refine c1.mono ?_
            rintro e w' ⟨rfl, rfl⟩
            clear c1
            have hk := kickP_any gb n cb gw (driftS (1) T) (1) w1 O1.out H8.out K1.out (by first | exact Or.inl rfl | exact Or.inr rfl) HG.out.1 HG.out.2.1 HG.out.2.2
            go_wp2_with fail
            refine hk.mono ?_
            rintro e w2 ⟨rfl, ho2, ht2⟩
            have O2 := Lib.hid ho2
            have B2 := Lib.hid (ht2.below B1.out HCM.out.1 B1.out.size)
            clear ho2 ht2 hk
            by_cases k2 : okAll n (kickS gw (1) n (driftS (1) T))
            · have K2 := Lib.hid k2
              have c2 := checkP_any (.slice (some ⟨gb, 0, none⟩) n cb) n (kickS gw (1) n (driftS (1) T)) w2 O2.out.min (by have := H8.out; omega)
              rw [chk_good H8.out k2] at c2
              clear k2
              go_wp2_with fail
              refine c2.mono ?_
              rintro e w' ⟨rfl, rfl⟩
              clear c2
              have hd := driftP_any gb n cb (kickS gw (1) n (driftS (1) T)) (1) w2 O2.out H8.out K2.out (by first | exact Or.inl rfl | exact Or.inr rfl)
              go_wp2_with fail
              refine hd.mono ?_
              rintro e w3 ⟨rfl, ho3, ht3⟩
              have O3 := Lib.hid ho3
              have B3 := Lib.hid (ht3.below B2.out HCM.out.1 B2.out.size)
              clear ho3 ht3 hd
              by_cases k3 : okAll n (driftS (1) (kickS gw (1) n (driftS (1) T)))
              · have K3 := Lib.hid k3
                have c3 := checkP_any (.slice (some ⟨gb, 0, none⟩) n cb) n (driftS (1) (kickS gw (1) n (driftS (1) T))) w3 O3.out.min (by have := H8.out; omega)
                rw [chk_good H8.out k3] at c3
                clear k3
                go_wp2_with fail
                refine c3.mono ?_
                rintro e w' ⟨rfl, rfl⟩
                clear c3
                go_wp2
                go_roundw
                case rel => exact ⟨s + 1, by omega, by go_num, _, step_good HR.out K1.out K2.out K3.out, O3.out, B3.out⟩
                case measure => first | (simp [intOf]; done) | (simp [intOf]; omega)
              · have K3 := Lib.hid k3
                have c3 := checkP_any (.slice (some ⟨gb, 0, none⟩) n cb) n (driftS (1) (kickS gw (1) n (driftS (1) T))) w3 O3.out.min (by have := H8.out; omega)
                rw [chk_140 H8.out k3] at c3
                clear k3
                go_wp2_with fail
                refine c3.mono ?_
                rintro e w' ⟨rfl, rfl⟩
                clear c3
                go_wp2
                go_ret2
                exact run_bad (runR_none HCK.out HA.out (by rw [HM.out.1, HM.out.2]; exact step_bad3 HR.out hsm K1.out K2.out K3.out)) (by omega) B3.out
            · have K2 := Lib.hid k2
              have c2 := checkP_any (.slice (some ⟨gb, 0, none⟩) n cb) n (kickS gw (1) n (driftS (1) T)) w2 O2.out.min (by have := H8.out; omega)
              rw [chk_140 H8.out k2] at c2
              clear k2
              go_wp2_with fail
              refine c2.mono ?_
              rintro e w' ⟨rfl, rfl⟩
              clear c2
              go_wp2
              go_ret2
              exact run_bad (runR_none HCK.out HA.out (by rw [HM.out.1, HM.out.2]; exact step_bad2 HR.out hsm K1.out K2.out)) (by omega) B2.out
          · have K1 := Lib.hid k1
            have c1 := checkP_any (.slice (some ⟨gb, 0, none⟩) n cb) n (driftS (1) T) w1 O1.out.min (by have := H8.out; omega)
            rw [chk_140 H8.out k1] at c1
            clear k1
            go_wp2_with fail
            refine c1.mono ?_
            rintro e w' ⟨rfl, rfl⟩
            clear c1
            go_wp2
            go_ret2
            exact run_bad (runR_none HCK.out HA.out (by rw [HM.out.1, HM.out.2]; exact step_bad1 HR.out hsm K1.out)) (by omega) B1.out
        · have hsm2 : s = m := by omega
          subst hsm2
          go_wp2
          go_ret2
          exact run_good (runR_some HCK.out HA.out (by rw [HM.out.1, HM.out.2]; exact HR.out)) HB.out HCM.out.1 HO.out HCM.out.2.1 HCM.out.2.2
  · have HCK := Lib.hid hz
    obtain ⟨C, hC⟩ : ∃ C, chk n S = C := ⟨_, rfl⟩
    rw [hC] at hck hz
    have HC2 := Lib.hid hC
    have HC := Lib.hid hck
    have hne : (C != 0) = true := by rw [bne_iff_ne]; exact hz
    have HZ := Lib.hid hz
    clear hck hC hz
    go_enter Try.func21, Try.ntmps21
    go_wp2_with (first | (go_at_call 18; refine HC.out.mono ?_; rintro e w' ⟨rfl, rfl⟩))
    go_ret2
    exact run_bad (by rw [runR_chk HCK.out, HC2.out]) HZ.out (Below.refl _ _)

set_option maxHeartbeats 4000000 in
theorem runR_any (v : Value) (n gw : Nat) (N : Int) (S : Nat → Int) (w : World) (hv : MIn w v n S) (hn : n ≤ 4398046511104) (hgw : gw < 18446744073709551616) (hN : -9223372036854775808 ≤ N ∧ N ≤ 9223372036854775807) :
    Calls Try.prog 22 #[v, .float .f64 gw, .int .i64 N] w (RunPost gw n S N w) := by
  have HV := Lib.hid hv
  have HGW := Lib.hid hgw
  have HNN := Lib.hid hN
  have hck := checkR_any v n S w hv hn
  obtain ⟨A, cap, rfl⟩ := hv.form
  clear hv hgw
  obtain ⟨hN1, hN2⟩ := hN
  by_cases hz : chk n S = 0
  · have HCK := Lib.hid hz
    have H8 := Lib.hid (chk_zero.1 hz).1
    have HOK := Lib.hid (chk_zero.1 hz).2
    rw [hz] at hck
    have HC := Lib.hid hck
    clear hz hck
    obtain ⟨b1, hb1⟩ : ∃ b, geB gw = b := ⟨_, rfl⟩
    obtain ⟨b2, hb2⟩ : ∃ b, leB gw = b := ⟨_, rfl⟩
    have hge : (o64 gw 0 == some .gt || o64 gw 0 == some .eq) = b1 := hb1
    have hle : (o64 gw 4787326403894837248 == some .lt || o64 gw 4787326403894837248 == some .eq) = b2 := hb2
    have HB1 := Lib.hid hb1
    have HB2 := Lib.hid hb2
    clear hb1 hb2
    by_cases hlo : N < -4096
    · go_enter Try.func22, Try.ntmps22
      go_wp2_with (first | (go_at_call 19; refine HC.out.mono ?_; rintro e w' ⟨rfl, rfl⟩))
      go_ret2
      exact run_bad (runR_arg HCK.out (Or.inl hlo)) (by omega) (Below.refl _ _)
    by_cases hhi : 4096 < N
    · go_enter Try.func22, Try.ntmps22
      go_wp2_with (first | (go_at_call 19; refine HC.out.mono ?_; rintro e w' ⟨rfl, rfl⟩))
      go_ret2
      exact run_bad (runR_arg HCK.out (Or.inr (Or.inl hhi))) (by omega) (Below.refl _ _)
    cases b1
    · go_enter Try.func22, Try.ntmps22
      go_wp2_with (first | (go_at_call 19; refine HC.out.mono ?_; rintro e w' ⟨rfl, rfl⟩))
      go_ret2
      exact run_bad (runR_arg HCK.out (Or.inr (Or.inr (Or.inl HB1.out)))) (by omega) (Below.refl _ _)
    cases b2
    · go_enter Try.func22, Try.ntmps22
      go_wp2_with (first | (go_at_call 19; refine HC.out.mono ?_; rintro e w' ⟨rfl, rfl⟩))
      go_ret2
      exact run_bad (runR_arg HCK.out (Or.inr (Or.inr (Or.inr HB2.out)))) (by omega) (Below.refl _ _)
    have HG := Lib.hid (g_fin HGW.out HB1.out HB2.out)
    have HA : Hid (¬ (N < -4096 ∨ 4096 < N ∨ geB gw = false ∨ leB gw = false)) := Lib.hid (by rw [HB1.out, HB2.out]; simp; omega)
    have HE1 := Lib.hid (own_empty w)
    have HV1 := Lib.hid (HV.out.below ((Below.refl _ _).alloc (Nat.le_refl _) (.cells #[] 40)))
    by_cases hneg : N < 0
    · obtain ⟨m, hm⟩ : ∃ m : Nat, N = -(m : Int) := ⟨N.natAbs, by omega⟩
      have HM : Hid (sgnN N = -1 ∧ N.natAbs = m) := Lib.hid ⟨by unfold sgnN; rw [if_pos hneg], by omega⟩
      have hm1 : 1 ≤ m := by omega
      have hm2 : m ≤ 4096 := by omega
      have hNm : -N = (m : Int) := by omega
      clear hm
      go_enter Try.func22, Try.ntmps22
      go_wp2_with (first | (go_at_call 19; refine HC.out.mono ?_; rintro e w' ⟨rfl, rfl⟩) | (at_builtin; refine wpList_append_srcM rfl _ _ rfl w.heap.size 0 _ [] rfl HE1.out _ n S rfl HV1.out ?c1 ?c2 ?_))
      case c1 => have := H8.out; omega
      case c2 => first | (simp; done) | (simp; omega) | omega
      intro va wa hown hgr hblk
      have hrow := own_of_row (S := S) (show wa.ownsRow w.heap.size 40 7 va n (vals n S) from by simpa using hown) (by rcases hblk with h | h <;> exact ⟨_, h⟩)
      obtain ⟨gb, cb, rfl, hgb, howna, hncap, hcapm⟩ := hrow
      have HOA := Lib.hid howna
      have HBA := Lib.hid (((Below.refl w.heap.size w).alloc (Nat.le_refl _) (.cells #[] 40)).grown hgr (by simp) (by intro k hk; simp [Value.ownBlock] at hk; omega))
      have HCM := Lib.hid (And.intro hgb (And.intro hncap hcapm))
      clear hown hgr hblk howna hgb hncap hcapm
      go_wp2_with fail
      go_loopw [11] (fun vs wr => ∃ s : Nat, s ≤ m ∧ vs = .int .i64 s ∧ ∃ T, runO gw (-1) n S s = some T ∧ Own wr gb n cb T ∧ Below w.heap.size w wr) (fun vs _ => m - (intOf vs).toNat)
      case atStart => exact ⟨0, Nat.zero_le _, rfl, S, runO_start, HOA.out, HBA.out⟩
      case round =>
        obtain ⟨s, hs, rfl, T, hr, ho, hb⟩ := hrel
        have HR := Lib.hid hr
        have HO := Lib.hid ho
        have HB := Lib.hid hb
        have HTK := Lib.hid (runO_ok HOK.out s hr)
        clear hr ho hb
        by_cases hsm : s < m
        · have hd1 := fun u (hu : Own u gb n cb T) => driftR_any gb n cb T (-1) u hu H8.out HTK.out (by first | exact Or.inl rfl | exact Or.inr rfl)
          have HD1 := Lib.hid hd1
          clear hd1
          go_wp2_with fail
          refine (HD1.out _ HO.out).mono ?_
          rintro e w1 ⟨rfl, ho1, ht1⟩
          have O1 := Lib.hid ho1
          have B1 := Lib.hid (ht1.below HB.out HCM.out.1 HB.out.size)
          clear ho1 ht1
          by_cases k1 : okAll n (driftS (-1) T)
          · have K1 := Lib.hid k1
            have c1 := checkR_any (.slice (some ⟨gb, 0, none⟩) n cb) n (driftS (-1) T) w1 O1.out.min (by have := H8.out; omega)
            rw [chk_good H8.out k1] at c1
            clear k1
            go_wp2_with fail
            refine c1.mono ?_
            rintro e w' ⟨rfl, rfl⟩
            clear c1
            have hk := kickR_any gb n cb gw (driftS (-1) T) (-1) w1 O1.out H8.out K1.out (by first | exact Or.inl rfl | exact Or.inr rfl) HG.out.1 HG.out.2.1 HG.out.2.2
            go_wp2_with fail
            refine hk.mono ?_
            rintro e w2 ⟨rfl, ho2, ht2⟩
            have O2 := Lib.hid ho2
            have B2 := Lib.hid (ht2.below B1.out HCM.out.1 B1.out.size)
            clear ho2 ht2 hk
            by_cases k2 : okAll n (kickS gw (-1) n (driftS (-1) T))
            · have K2 := Lib.hid k2
              have c2 := checkR_any (.slice (some ⟨gb, 0, none⟩) n cb) n (kickS gw (-1) n (driftS (-1) T)) w2 O2.out.min (by have := H8.out; omega)
              rw [chk_good H8.out k2] at c2
              clear k2
              go_wp2_with fail
              refine c2.mono ?_
              rintro e w' ⟨rfl, rfl⟩
              clear c2
              have hd := driftR_any gb n cb (kickS gw (-1) n (driftS (-1) T)) (-1) w2 O2.out H8.out K2.out (by first | exact Or.inl rfl | exact Or.inr rfl)
              go_wp2_with fail
              refine hd.mono ?_
              rintro e w3 ⟨rfl, ho3, ht3⟩
              have O3 := Lib.hid ho3
              have B3 := Lib.hid (ht3.below B2.out HCM.out.1 B2.out.size)
              clear ho3 ht3 hd
              by_cases k3 : okAll n (driftS (-1) (kickS gw (-1) n (driftS (-1) T)))
              · have K3 := Lib.hid k3
                have c3 := checkR_any (.slice (some ⟨gb, 0, none⟩) n cb) n (driftS (-1) (kickS gw (-1) n (driftS (-1) T))) w3 O3.out.min (by have := H8.out; omega)
                rw [chk_good H8.out k3] at c3
                clear k3
                go_wp2_with fail
                refine c3.mono ?_
                rintro e w' ⟨rfl, rfl⟩
                clear c3
                go_wp2
                go_roundw
                case rel => exact ⟨s + 1, by omega, by go_num, _, step_good HR.out K1.out K2.out K3.out, O3.out, B3.out⟩
                case measure => first | (simp [intOf]; done) | (simp [intOf]; omega)
              · have K3 := Lib.hid k3
                have c3 := checkR_any (.slice (some ⟨gb, 0, none⟩) n cb) n (driftS (-1) (kickS gw (-1) n (driftS (-1) T))) w3 O3.out.min (by have := H8.out; omega)
                rw [chk_140 H8.out k3] at c3
                clear k3
                go_wp2_with fail
                refine c3.mono ?_
                rintro e w' ⟨rfl, rfl⟩
                clear c3
                go_wp2
                go_ret2
                exact run_bad (runR_none HCK.out HA.out (by rw [HM.out.1, HM.out.2]; exact step_bad3 HR.out hsm K1.out K2.out K3.out)) (by omega) B3.out
            · have K2 := Lib.hid k2
              have c2 := checkR_any (.slice (some ⟨gb, 0, none⟩) n cb) n (kickS gw (-1) n (driftS (-1) T)) w2 O2.out.min (by have := H8.out; omega)
              rw [chk_140 H8.out k2] at c2
              clear k2
              go_wp2_with fail
              refine c2.mono ?_
              rintro e w' ⟨rfl, rfl⟩
              clear c2
              go_wp2
              go_ret2
              exact run_bad (runR_none HCK.out HA.out (by rw [HM.out.1, HM.out.2]; exact step_bad2 HR.out hsm K1.out K2.out)) (by omega) B2.out
          · have K1 := Lib.hid k1
            have c1 := checkR_any (.slice (some ⟨gb, 0, none⟩) n cb) n (driftS (-1) T) w1 O1.out.min (by have := H8.out; omega)
            rw [chk_140 H8.out k1] at c1
            clear k1
            go_wp2_with fail
            refine c1.mono ?_
            rintro e w' ⟨rfl, rfl⟩
            clear c1
            go_wp2
            go_ret2
            exact run_bad (runR_none HCK.out HA.out (by rw [HM.out.1, HM.out.2]; exact step_bad1 HR.out hsm K1.out)) (by omega) B1.out
        · have hsm2 : s = m := by omega
          subst hsm2
          go_wp2
          go_ret2
          exact run_good (runR_some HCK.out HA.out (by rw [HM.out.1, HM.out.2]; exact HR.out)) HB.out HCM.out.1 HO.out HCM.out.2.1 HCM.out.2.2
    · obtain ⟨m, hm⟩ : ∃ m : Nat, N = (m : Int) := ⟨N.natAbs, by omega⟩
      have HM : Hid (sgnN N = 1 ∧ N.natAbs = m) := Lib.hid ⟨by unfold sgnN; rw [if_neg hneg], by omega⟩
      have hm2 : m ≤ 4096 := by omega
      subst hm
      go_enter Try.func22, Try.ntmps22
      go_wp2_with (first | (go_at_call 19; refine HC.out.mono ?_; rintro e w' ⟨rfl, rfl⟩) | (at_builtin; refine wpList_append_srcM rfl _ _ rfl w.heap.size 0 _ [] rfl HE1.out _ n S rfl HV1.out ?c1 ?c2 ?_))
      case c1 => have := H8.out; omega
      case c2 => first | (simp; done) | (simp; omega) | omega
      intro va wa hown hgr hblk
      have hrow := own_of_row (S := S) (show wa.ownsRow w.heap.size 40 7 va n (vals n S) from by simpa using hown) (by rcases hblk with h | h <;> exact ⟨_, h⟩)
      obtain ⟨gb, cb, rfl, hgb, howna, hncap, hcapm⟩ := hrow
      have HOA := Lib.hid howna
      have HBA := Lib.hid (((Below.refl w.heap.size w).alloc (Nat.le_refl _) (.cells #[] 40)).grown hgr (by simp) (by intro k hk; simp [Value.ownBlock] at hk; omega))
      have HCM := Lib.hid (And.intro hgb (And.intro hncap hcapm))
      clear hown hgr hblk howna hgb hncap hcapm
      go_wp2_with fail
      go_loopw [11] (fun vs wr => ∃ s : Nat, s ≤ m ∧ vs = .int .i64 s ∧ ∃ T, runO gw (1) n S s = some T ∧ Own wr gb n cb T ∧ Below w.heap.size w wr) (fun vs _ => m - (intOf vs).toNat)
      case atStart => exact ⟨0, Nat.zero_le _, rfl, S, runO_start, HOA.out, HBA.out⟩
      case round =>
        obtain ⟨s, hs, rfl, T, hr, ho, hb⟩ := hrel
        have HR := Lib.hid hr
        have HO := Lib.hid ho
        have HB := Lib.hid hb
        have HTK := Lib.hid (runO_ok HOK.out s hr)
        clear hr ho hb
        by_cases hsm : s < m
        · have hd1 := fun u (hu : Own u gb n cb T) => driftR_any gb n cb T (1) u hu H8.out HTK.out (by first | exact Or.inl rfl | exact Or.inr rfl)
          have HD1 := Lib.hid hd1
          clear hd1
          go_wp2_with fail
          refine (HD1.out _ HO.out).mono ?_
          rintro e w1 ⟨rfl, ho1, ht1⟩
          have O1 := Lib.hid ho1
          have B1 := Lib.hid (ht1.below HB.out HCM.out.1 HB.out.size)
          clear ho1 ht1
          by_cases k1 : okAll n (driftS (1) T)
          · have K1 := Lib.hid k1
            have c1 := checkR_any (.slice (some ⟨gb, 0, none⟩) n cb) n (driftS (1) T) w1 O1.out.min (by have := H8.out; omega)
            rw [chk_good H8.out k1] at c1
            clear k1
            go_wp2_with fail
            refine c1.mono ?_
            rintro e w' ⟨rfl, rfl⟩
            clear c1
            have hk := kickR_any gb n cb gw (driftS (1) T) (1) w1 O1.out H8.out K1.out (by first | exact Or.inl rfl | exact Or.inr rfl) HG.out.1 HG.out.2.1 HG.out.2.2
            go_wp2_with fail
            refine hk.mono ?_
            rintro e w2 ⟨rfl, ho2, ht2⟩
            have O2 := Lib.hid ho2
            have B2 := Lib.hid (ht2.below B1.out HCM.out.1 B1.out.size)
            clear ho2 ht2 hk
            by_cases k2 : okAll n (kickS gw (1) n (driftS (1) T))
            · have K2 := Lib.hid k2
              have c2 := checkR_any (.slice (some ⟨gb, 0, none⟩) n cb) n (kickS gw (1) n (driftS (1) T)) w2 O2.out.min (by have := H8.out; omega)
              rw [chk_good H8.out k2] at c2
              clear k2
              go_wp2_with fail
              refine c2.mono ?_
              rintro e w' ⟨rfl, rfl⟩
              clear c2
              have hd := driftR_any gb n cb (kickS gw (1) n (driftS (1) T)) (1) w2 O2.out H8.out K2.out (by first | exact Or.inl rfl | exact Or.inr rfl)
              go_wp2_with fail
              refine hd.mono ?_
              rintro e w3 ⟨rfl, ho3, ht3⟩
              have O3 := Lib.hid ho3
              have B3 := Lib.hid (ht3.below B2.out HCM.out.1 B2.out.size)
              clear ho3 ht3 hd
              by_cases k3 : okAll n (driftS (1) (kickS gw (1) n (driftS (1) T)))
              · have K3 := Lib.hid k3
                have c3 := checkR_any (.slice (some ⟨gb, 0, none⟩) n cb) n (driftS (1) (kickS gw (1) n (driftS (1) T))) w3 O3.out.min (by have := H8.out; omega)
                rw [chk_good H8.out k3] at c3
                clear k3
                go_wp2_with fail
                refine c3.mono ?_
                rintro e w' ⟨rfl, rfl⟩
                clear c3
                go_wp2
                go_roundw
                case rel => exact ⟨s + 1, by omega, by go_num, _, step_good HR.out K1.out K2.out K3.out, O3.out, B3.out⟩
                case measure => first | (simp [intOf]; done) | (simp [intOf]; omega)
              · have K3 := Lib.hid k3
                have c3 := checkR_any (.slice (some ⟨gb, 0, none⟩) n cb) n (driftS (1) (kickS gw (1) n (driftS (1) T))) w3 O3.out.min (by have := H8.out; omega)
                rw [chk_140 H8.out k3] at c3
                clear k3
                go_wp2_with fail
                refine c3.mono ?_
                rintro e w' ⟨rfl, rfl⟩
                clear c3
                go_wp2
                go_ret2
                exact run_bad (runR_none HCK.out HA.out (by rw [HM.out.1, HM.out.2]; exact step_bad3 HR.out hsm K1.out K2.out K3.out)) (by omega) B3.out
            · have K2 := Lib.hid k2
              have c2 := checkR_any (.slice (some ⟨gb, 0, none⟩) n cb) n (kickS gw (1) n (driftS (1) T)) w2 O2.out.min (by have := H8.out; omega)
              rw [chk_140 H8.out k2] at c2
              clear k2
              go_wp2_with fail
              refine c2.mono ?_
              rintro e w' ⟨rfl, rfl⟩
              clear c2
              go_wp2
              go_ret2
              exact run_bad (runR_none HCK.out HA.out (by rw [HM.out.1, HM.out.2]; exact step_bad2 HR.out hsm K1.out K2.out)) (by omega) B2.out
          · have K1 := Lib.hid k1
            have c1 := checkR_any (.slice (some ⟨gb, 0, none⟩) n cb) n (driftS (1) T) w1 O1.out.min (by have := H8.out; omega)
            rw [chk_140 H8.out k1] at c1
            clear k1
            go_wp2_with fail
            refine c1.mono ?_
            rintro e w' ⟨rfl, rfl⟩
            clear c1
            go_wp2
            go_ret2
            exact run_bad (runR_none HCK.out HA.out (by rw [HM.out.1, HM.out.2]; exact step_bad1 HR.out hsm K1.out)) (by omega) B1.out
        · have hsm2 : s = m := by omega
          subst hsm2
          go_wp2
          go_ret2
          exact run_good (runR_some HCK.out HA.out (by rw [HM.out.1, HM.out.2]; exact HR.out)) HB.out HCM.out.1 HO.out HCM.out.2.1 HCM.out.2.2
  · have HCK := Lib.hid hz
    obtain ⟨C, hC⟩ : ∃ C, chk n S = C := ⟨_, rfl⟩
    rw [hC] at hck hz
    have HC2 := Lib.hid hC
    have HC := Lib.hid hck
    have hne : (C != 0) = true := by rw [bne_iff_ne]; exact hz
    have HZ := Lib.hid hz
    clear hck hC hz
    go_enter Try.func22, Try.ntmps22
    go_wp2_with (first | (go_at_call 19; refine HC.out.mono ?_; rintro e w' ⟨rfl, rfl⟩))
    go_ret2
    exact run_bad (by rw [runR_chk HCK.out, HC2.out]) HZ.out (Below.refl _ _)
end Go.Proofs.Ytjapohjfheielaa
