/- TotParts: the walk. Conditions: none. -/
import Derived.Test.YtlegkefonpiakaaV2
namespace Go.Proofs.Ytlegkefonpiakaa
open Go.RowKit

/-- the plain law: two numbers' exact parts are as good as they -/
theorem parts_law {l : List Nat} {a b : Nat} (hw : Words l) (ha : a < 18446744073709551616) (hb : b < 18446744073709551616) (fa : fitB a = true) (fb : fitB b = true) :
    TwoOk a b ∧ twoS a b < 18446744073709551616 ∧ twoE a b < 18446744073709551616 ∧
    (fitB (twoS a b) = true → fitB (twoE a b) = true → agreeW (exactR fitB (l ++ [a, b])) (checkL fitB (l ++ [a, b])) (exactR fitB (l ++ [twoS a b, twoE a b])) (checkL fitB (l ++ [twoS a b, twoE a b])) = true) := by
  obtain ⟨Fa, ca⟩ := fit_V ha fa
  obtain ⟨Fb, cb⟩ := fit_V hb fb
  have hc : 100 * cap ≤ Ieee.big := by
    have h1 := cap_small
    have h2 := capB_big
    omega
  obtain ⟨t1, t2, t3, t4, t5⟩ := two_V Fa Fb ca cb hc
  refine ⟨t1, t2.1, t4.1, ?_⟩
  intro fs fr
  have hck : checkL fitB (l ++ [twoS a b, twoE a b]) = checkL fitB (l ++ [a, b]) := by
    unfold checkL checkFrom
    simp [fa, fb, fs, fr]
  rw [hck]
  have hex : exactR fitB (l ++ [twoS a b, twoE a b]) = exactR fitB (l ++ [a, b]) := by
    unfold exactR
    rw [hck]
    by_cases h0 : checkL fitB (l ++ [a, b]) = 0
    · rw [if_pos h0, if_pos h0]
      have w1 : Words (l ++ [a, b]) := by
        intro x hx
        simp only [List.mem_append, List.mem_cons, List.not_mem_nil, or_false] at hx
        rcases hx with hx | rfl | rfl
        · exact hw x hx
        · exact ha
        · exact hb
      have w2 : Words (l ++ [twoS a b, twoE a b]) := by
        intro x hx
        simp only [List.mem_append, List.mem_cons, List.not_mem_nil, or_false] at hx
        rcases hx with hx | rfl | rfl
        · exact hw x hx
        · exact t2.1
        · exact t4.1
      rw [(exact_law w1 h0).2, (exact_law w2 (by rw [hck]; exact h0)).2]
      have : sumV (l ++ [twoS a b, twoE a b]) = sumV (l ++ [a, b]) := by
        unfold sumV
        simp only [List.map_append, List.sum_append, List.map_cons, List.map_nil, List.sum_cons, List.sum_nil]
        rw [t3, t5]
        omega
      rw [this]
    · rw [if_neg h0, if_neg h0]
  rw [hex]
  exact agree_same _ _

theorem fit_pair (x y : Nat) : (fitB x && fitB y) = true ↔ fitB x = true ∧ fitB y = true := by simp

theorem words2 {l : List Nat} (hw : Words l) {x y : Nat} (hx : x < 18446744073709551616) (hy : y < 18446744073709551616) : Words (l ++ [x, y]) := by
  intro z hz
  simp only [List.mem_append, List.mem_cons, List.not_mem_nil, or_false] at hz
  rcases hz with hz | rfl | rfl
  · exact hw z hz
  · exact hx
  · exact hy

set_option maxHeartbeats 2000000 in
theorem parts_walk (src : Value) (l : List Nat) (a b : Nat) (w : World) (hsrc : Came w w.heap.size src l) (hw : Words l) (hm : l.length ≤ 9223372036854775807) (ha : a < 18446744073709551616) (hb : b < 18446744073709551616) :
    Calls Try.prog 3 #[src, .float .f64 a, .float .f64 b] w fun e w' => e = .returned (.bool true) ∧ Below w.heap.size w w' := by
  have HW := Lib.hid hw
  have HS := Lib.hid hsrc
  obtain ⟨A, cap, hv⟩ := hsrc.form
  by_cases hf : (fitB a && fitB b) = true
  · obtain ⟨fa, fb⟩ := (fit_pair a b).1 hf
    obtain ⟨t1, t2, t3, t4⟩ := parts_law hw ha hb fa fb
    have hsum := sum_fit a b t1 hf
    have HA := Lib.hid ha
    have HB := Lib.hid hb
    have T2 := Lib.hid t2
    have T3 := Lib.hid t3
    have T4 := Lib.hid t4
    clear hf fa fb t1 hw ha hb t2 t3 t4 hsrc
    generalize twoS a b = s at *
    generalize twoE a b = r at *
    have hfs := refFit_any s
    have hfr := refFit_any r
    cases hs : fitB s
    · rw [hs] at hfs
      clear hs hfr
      subst hv
      go_enter Try.func3, Try.ntmps3
      go_wp2_with fail
      refine (awake_any _).mono ?_
      rintro e w1 ⟨rfl, hb1⟩
      have H1 := Lib.hid hb1
      have hsz1 := hb1.size
      clear hb1
      go_wp2_with fail
      refine (hsum _).mono ?_
      rintro e w' ⟨rfl, rfl⟩
      go_wp2_with fail
      refine (hfs _).mono ?_
      rintro e w' ⟨rfl, rfl⟩
      go_wp2_with fail
      go_ret
      exact ⟨rfl, H1.out⟩
    · rw [hs] at hfs
      cases hr : fitB r
      · rw [hr] at hfr
        clear hs hr
        subst hv
        go_enter Try.func3, Try.ntmps3
        go_wp2_with fail
        refine (awake_any _).mono ?_
        rintro e w1 ⟨rfl, hb1⟩
        have H1 := Lib.hid hb1
        have hsz1 := hb1.size
        clear hb1
        go_wp2_with fail
        refine (hsum _).mono ?_
        rintro e w' ⟨rfl, rfl⟩
        go_wp2_with fail
        refine (hfs _).mono ?_
        rintro e w' ⟨rfl, rfl⟩
        go_wp2_with fail
        refine (hfr _).mono ?_
        rintro e w' ⟨rfl, rfl⟩
        go_wp2_with fail
        go_ret
        exact ⟨rfl, H1.out⟩
      · rw [hr] at hfr
        have HAG := Lib.hid (T4.out hs hr)
        clear hs hr T4
        by_cases hlen : l.length ≤ 200
        · subst hv
          go_enter Try.func3, Try.ntmps3
          go_wp2_with fail
          refine (awake_any _).mono ?_
          rintro e w1 ⟨rfl, hb1⟩
          have H1 := Lib.hid hb1
          have hsz1 := hb1.size
          clear hb1
          go_wp2_with fail
          refine (hsum _).mono ?_
          rintro e w' ⟨rfl, rfl⟩
          go_wp2_with fail
          refine (hfs _).mono ?_
          rintro e w' ⟨rfl, rfl⟩
          go_wp2_with fail
          refine (hfr _).mono ?_
          rintro e w' ⟨rfl, rfl⟩
          obtain ⟨i0, hi, hz0, hz1, hz2⟩ := info_parts Try.info23
          have hs1 : w.heap.size ≤ w1.heap.size := H1.out.size
          have HC1 := Lib.hid (HS.out.below (H1.out.alloc hs1 (.cells #[] 23)))
          have HE1 := Lib.hid (own_empty w1 w.heap.size hs1)
          go_wp2_with (first | (at_builtin; refine wpList_append_src rfl _ _ rfl w.heap.size 0 _ [] rfl HE1.out w.heap.size _ l rfl HC1.out ?c1 ?c2 ?_))
          case c1 => omega
          case c2 => simp; omega
          intro va1 wa1 hown hgr _
          have HO1 := Lib.hid (hown.alloc (.cells #[.float .f64 a, .float .f64 b] 23))
          have HA1 := Lib.hid ((H1.out.alloc hs1 (.cells #[] 23)).grown hgr (by simp; omega) (by intro k hk; simp [Value.ownBlock] at hk; omega))
          have hsa1 : w.heap.size ≤ wa1.heap.size := HA1.out.size
          have HP1 := Lib.hid (HA1.out.alloc hsa1 (.cells #[.float .f64 a, .float .f64 b] 23))
          clear hown hgr
          go_wp2_with (first | (at_builtin; refine wpList_append_own_at _ rfl _ _ 22 rfl w.heap.size 23 i0 (.float .f64 0) 1 8 Try.underlying22 hi hz0 hz1 hz2 rfl (by decide) _ _ _ rfl HO1.out ⟨wa1.heap.size, 0, none⟩ 2 2 [.float .f64 a, .float .f64 b] rfl rfl ?c1 ?c2 ?c3 ?c4 ?c5 ?_))
          case c1 => exact cell_two_new _ _ _ _
          case c2 => simp [Value.oneCell']
          case c3 => unfold maxLen; omega
          case c4 => omega
          case c5 => simp; omega
          intro vb1 wb1 hown hgr _ _
          have hlist : flts l ++ [.float .f64 a, .float .f64 b] = flts (l ++ [a, b]) := by simp [flts]
          rw [hlist] at hown
          have HV1 := Lib.hid (came_own hown).1
          have HQ1 := Lib.hid (HP1.out.grown hgr (by simp; omega) (fun k hk => (HO1.out.lt k hk).1))
          have hsb1 : w.heap.size ≤ wb1.heap.size := HQ1.out.size
          clear hown hgr hlist
          go_wp2_with fail
          refine (exact_v _ (l ++ [a, b]) _ (by simp; omega) (words2 HW.out HA.out HB.out) HV1.out).mono ?_
          rintro e wc1 ⟨rfl, hbel⟩
          have HN1 := Lib.hid (HQ1.out.trans (hbel.mono hsb1))
          clear hbel
          have hs2 : w.heap.size ≤ wc1.heap.size := HN1.out.size
          have HC2 := Lib.hid (HS.out.below (HN1.out.alloc hs2 (.cells #[] 23)))
          have HE2 := Lib.hid (own_empty wc1 w.heap.size hs2)
          go_wp2_with (first | (at_builtin; refine wpList_append_src rfl _ _ rfl w.heap.size 0 _ [] rfl HE2.out w.heap.size _ l rfl HC2.out ?c1 ?c2 ?_))
          case c1 => omega
          case c2 => simp; omega
          intro va2 wa2 hown hgr _
          have HO2 := Lib.hid (hown.alloc (.cells #[.float .f64 s, .float .f64 r] 23))
          have HA2 := Lib.hid ((HN1.out.alloc hs2 (.cells #[] 23)).grown hgr (by simp; omega) (by intro k hk; simp [Value.ownBlock] at hk; omega))
          have hsa2 : w.heap.size ≤ wa2.heap.size := HA2.out.size
          have HP2 := Lib.hid (HA2.out.alloc hsa2 (.cells #[.float .f64 s, .float .f64 r] 23))
          clear hown hgr
          go_wp2_with (first | (at_builtin; refine wpList_append_own_at _ rfl _ _ 22 rfl w.heap.size 23 i0 (.float .f64 0) 1 8 Try.underlying22 hi hz0 hz1 hz2 rfl (by decide) _ _ _ rfl HO2.out ⟨wa2.heap.size, 0, none⟩ 2 2 [.float .f64 s, .float .f64 r] rfl rfl ?c1 ?c2 ?c3 ?c4 ?c5 ?_))
          case c1 => exact cell_two_new _ _ _ _
          case c2 => simp [Value.oneCell']
          case c3 => unfold maxLen; omega
          case c4 => omega
          case c5 => simp; omega
          intro vb2 wb2 hown hgr _ _
          have hlist : flts l ++ [.float .f64 s, .float .f64 r] = flts (l ++ [s, r]) := by simp [flts]
          rw [hlist] at hown
          have HV2 := Lib.hid (came_own hown).1
          have HQ2 := Lib.hid (HP2.out.grown hgr (by simp; omega) (fun k hk => (HO2.out.lt k hk).1))
          have hsb2 : w.heap.size ≤ wb2.heap.size := HQ2.out.size
          clear hown hgr hlist
          go_wp2_with fail
          refine (exact_v _ (l ++ [s, r]) _ (by simp; omega) (words2 HW.out T2.out T3.out) HV2.out).mono ?_
          rintro e wc2 ⟨rfl, hbel⟩
          have HN2 := Lib.hid (HQ2.out.trans (hbel.mono hsb2))
          clear hbel
          go_wp2_with fail
          refine (agree_any _ _ _ _ _).mono ?_
          rintro e w' ⟨rfl, rfl⟩
          rw [HAG.out]
          go_wp2_with fail
          go_ret
          exact ⟨rfl, HN2.out⟩
        · subst hv
          go_enter Try.func3, Try.ntmps3
          go_wp2_with fail
          refine (awake_any _).mono ?_
          rintro e w1 ⟨rfl, hb1⟩
          have H1 := Lib.hid hb1
          have hsz1 := hb1.size
          clear hb1
          go_wp2_with fail
          refine (hsum _).mono ?_
          rintro e w' ⟨rfl, rfl⟩
          go_wp2_with fail
          refine (hfs _).mono ?_
          rintro e w' ⟨rfl, rfl⟩
          go_wp2_with fail
          refine (hfr _).mono ?_
          rintro e w' ⟨rfl, rfl⟩
          go_wp2_with fail
          go_ret
          exact ⟨rfl, H1.out⟩
  · have hsum := sum_unfit a b (by cases h : (fitB a && fitB b) <;> simp_all)
    clear hsrc hf hw ha hb
    subst hv
    go_enter Try.func3, Try.ntmps3
    go_wp2_with fail
    refine (awake_any _).mono ?_
    rintro e w1 ⟨rfl, hb1⟩
    have H1 := Lib.hid hb1
    have hsz1 := hb1.size
    clear hb1
    go_wp2_with fail
    refine (hsum _).mono ?_
    rintro e w' ⟨rfl, rfl⟩
    go_wp2_with fail
    go_ret
    exact ⟨rfl, H1.out⟩
end Go.Proofs.Ytlegkefonpiakaa
