/- TotShuffles: the walk. Conditions: lists of at most 2^47 bytes. -/
import Derived.Test.YtlegkefonpiakaaV6
namespace Go.Proofs.Ytlegkefonpiakaa
open Go.RowKit

theorem Came.mono {w : World} {v : Value} {B B' : Nat} {l : List Nat} (h : Came w B v l) (hB : B ≤ B') : Came w B' v l := by
  rcases h with h | ⟨a, cap, h1, h2⟩
  · exact Or.inl h
  · exact Or.inr ⟨a, cap, h1, fun h => ⟨(h2 h).1, Nat.lt_of_lt_of_le (h2 h).2.1 hB, (h2 h).2.2⟩⟩

set_option maxHeartbeats 8000000 in
theorem shuf_walk (src tgt : Value) (l m : List Nat) (k : Nat) (w : World) (hsrc : Came w w.heap.size src l) (htgt : Came w w.heap.size tgt m) (hw : Words l) (hx : Words m) (hm : l.length ≤ 17592186043904) (hm2 : m.length ≤ 17592186043904) (hk : k < 18446744073709551616) :
    Calls Try.prog 5 #[src, tgt, .int .u64 k] w fun e w' => e = .returned (.bool true) ∧ Below w.heap.size w w' := by
  have HW := Lib.hid hw
  have HX := Lib.hid hx
  have HS := Lib.hid hsrc
  have HT := Lib.hid htgt
  obtain ⟨i0, hi, hz0, hz1, hz2⟩ := info_parts Try.info23
  obtain ⟨A, ca, rfl⟩ := hsrc.form
  obtain ⟨B, cb, rfl⟩ := htgt.form
  have hat : startN k l.length < l.length ∨ l = [] ∧ startN k l.length = 0 := by
    by_cases h0 : l.length = 0
    · exact Or.inr ⟨List.eq_nil_of_length_eq_zero h0, by unfold startN; rw [if_pos h0]⟩
    · refine Or.inl ?_
      unfold startN
      rw [if_neg h0]
      exact Nat.mod_lt _ (by omega)
  obtain ⟨at0, hAt⟩ : ∃ x, startN k l.length = x := ⟨_, rfl⟩
  rw [hAt] at hat
  have HAT := Lib.hid hat
  have HX1 := Lib.hid (exact_perm (words_perm hw (turnL_perm l at0).symm) (turnL_perm l at0))
  have HX2 := Lib.hid (check_perm (turnL_perm l at0))
  by_cases hlen : l.length = m.length
  · have HX3 := Lib.hid (dot_turn hw hx hlen at0)
    have HAT2 : Hid (at0 < m.length ∨ m = [] ∧ at0 = 0) := Lib.hid (by
      rcases hat with h | ⟨h, h'⟩
      · exact Or.inl (by omega)
      · subst h; exact Or.inr ⟨List.eq_nil_of_length_eq_zero hlen.symm, h'⟩)
    have hne : ((l.length : Int) != (m.length : Int)) = false := by rw [hlen]; simp
    clear hw hx hsrc htgt hat hlen
    go_enter Try.func5, Try.ntmps5
    go_wp2_with fail
    refine (awake_any _).mono ?_
    rintro e w1 ⟨rfl, hb1⟩
    have H1 := Lib.hid hb1
    have hsz1 := hb1.size
    clear hb1
    go_wp2_with fail
    refine (start_any k l.length hk (by omega) _).mono ?_
    rintro e w1' ⟨rfl, rfl⟩
    rw [hAt]
    have hs1 : w.heap.size ≤ w1.heap.size := H1.out.size
    have HC1 := Lib.hid (HS.out.below (H1.out.alloc hs1 (.cells #[] 23)))
    have HE1 := Lib.hid (own_empty w1 w1.heap.size (Nat.le_refl _))
    go_wp2_with (first | (at_builtin; refine wpList_append_src rfl _ _ rfl w1.heap.size 0 _ [] rfl HE1.out w.heap.size _ l rfl HC1.out ?c1 ?c2 ?_))
    case c1 => omega
    case c2 => first | (simp; done) | (simp; omega)
    intro va1 wa1 hown hgr _
    have HL1 := Lib.hid (came_own (by simpa using hown)).1
    have HO1 := Lib.hid hown
    have HD1 := Lib.hid (((Below.refl w1.heap.size w1).alloc (Nat.le_refl _) (.cells #[] 23)).grown hgr (by simp) (by intro k hk; simp [Value.ownBlock] at hk; omega))
    have HA1 := Lib.hid (H1.out.trans (HD1.out.mono hs1))
    clear hown hgr
    go_wp2_with fail
    refine (exact_v _ l _ (by omega) HW.out HL1.out).mono ?_
    rintro e wb ⟨rfl, hbel⟩
    have HN1 := Lib.hid (HA1.out.trans (hbel.mono HA1.out.size))
    clear hbel
    have hs2 : w.heap.size ≤ wb.heap.size := HN1.out.size
    go_wp2_with fail
    refine (turned_any _ l at0 _ ((HS.out.below HN1.out).mono hs2) HAT.out (by omega)).mono ?_
    rintro e wa2 ⟨va2, rfl, hown, hbel⟩
    have HL2 := Lib.hid (came_own hown).1
    have HD2 := Lib.hid hbel
    have HA2 := Lib.hid (HN1.out.trans (HD2.out.mono hs2))
    clear hown hbel
    go_wp2_with fail
    refine (exact_v _ (turnL l at0) _ (by rw [(turnL_perm _ _).length_eq]; omega) (words_perm HW.out (turnL_perm l at0).symm) HL2.out).mono ?_
    rintro e wc ⟨rfl, hbel⟩
    have HN2 := Lib.hid (HA2.out.trans (hbel.mono HA2.out.size))
    clear hbel
    rw [HX1.out, HX2.out]
    go_wp2_with fail
    refine (agree_any _ _ _ _ _).mono ?_
    rintro e w' ⟨rfl, rfl⟩
    rw [agree_same]
    have hs3 : w.heap.size ≤ wc.heap.size := HN2.out.size
    have HC3 := Lib.hid (HS.out.below (HN2.out.alloc hs3 (.cells #[] 23)))
    have HE3 := Lib.hid (own_empty wc wc.heap.size (Nat.le_refl _))
    go_wp2_with (first | (at_builtin; refine wpList_append_src rfl _ _ rfl wc.heap.size 0 _ [] rfl HE3.out w.heap.size _ l rfl HC3.out ?c1 ?c2 ?_))
    case c1 => omega
    case c2 => first | (simp; done) | (simp; omega)
    intro va3 wa3 hown hgr _
    have HL3 := Lib.hid (came_own (by simpa using hown)).1
    have HO3 := Lib.hid hown
    have HD3 := Lib.hid (((Below.refl wc.heap.size wc).alloc (Nat.le_refl _) (.cells #[] 23)).grown hgr (by simp) (by intro k hk; simp [Value.ownBlock] at hk; omega))
    have HA3 := Lib.hid (HN2.out.trans (HD3.out.mono hs3))
    clear hown hgr
    have hs4 : w.heap.size ≤ wa3.heap.size := HA3.out.size
    have HC4 := Lib.hid (HT.out.below (HA3.out.alloc hs4 (.cells #[] 23)))
    have HE4 := Lib.hid (own_empty wa3 wa3.heap.size (Nat.le_refl _))
    go_wp2_with (first | (at_builtin; refine wpList_append_src rfl _ _ rfl wa3.heap.size 0 _ [] rfl HE4.out w.heap.size _ m rfl HC4.out ?c1 ?c2 ?_))
    case c1 => omega
    case c2 => first | (simp; done) | (simp; omega)
    intro va4 wa4 hown hgr _
    have HL4 := Lib.hid (came_own (by simpa using hown)).1
    have HO4 := Lib.hid hown
    have HD4 := Lib.hid (((Below.refl wa3.heap.size wa3).alloc (Nat.le_refl _) (.cells #[] 23)).grown hgr (by simp) (by intro k hk; simp [Value.ownBlock] at hk; omega))
    have HA4 := Lib.hid (HA3.out.trans (HD4.out.mono hs4))
    clear hown hgr
    go_wp2_with fail
    refine (dot_v _ _ l m _ (by first | omega | (rw [(turnL_perm _ _).length_eq]; omega)) (by first | omega | (rw [(turnL_perm _ _).length_eq]; omega)) HW.out HX.out ((HL3.out.below HD4.out).mono HD4.out.size) HL4.out).mono ?_
    rintro e wd ⟨rfl, hbel⟩
    have HN3 := Lib.hid (HA4.out.trans (hbel.mono HA4.out.size))
    clear hbel
    have hs5 : w.heap.size ≤ wd.heap.size := HN3.out.size
    go_wp2_with fail
    refine (turned_any _ l at0 _ ((HS.out.below HN3.out).mono hs5) HAT.out (by omega)).mono ?_
    rintro e wa5 ⟨va5, rfl, hown, hbel⟩
    have HL5 := Lib.hid (came_own hown).1
    have HD5 := Lib.hid hbel
    have HA5 := Lib.hid (HN3.out.trans (HD5.out.mono hs5))
    clear hown hbel
    have hs6 : w.heap.size ≤ wa5.heap.size := HA5.out.size
    go_wp2_with fail
    refine (turned_any _ m at0 _ ((HT.out.below HA5.out).mono hs6) HAT2.out (by omega)).mono ?_
    rintro e wa6 ⟨va6, rfl, hown, hbel⟩
    have HL6 := Lib.hid (came_own hown).1
    have HD6 := Lib.hid hbel
    have HA6 := Lib.hid (HA5.out.trans (HD6.out.mono hs6))
    clear hown hbel
    go_wp2_with fail
    refine (dot_v _ _ (turnL l at0) (turnL m at0) _ (by first | omega | (rw [(turnL_perm _ _).length_eq]; omega)) (by first | omega | (rw [(turnL_perm _ _).length_eq]; omega)) (words_perm HW.out (turnL_perm l at0).symm) (words_perm HX.out (turnL_perm m at0).symm) ((HL5.out.below HD6.out).mono HD6.out.size) HL6.out).mono ?_
    rintro e we ⟨rfl, hbel⟩
    have HN4 := Lib.hid (HA6.out.trans (hbel.mono HA6.out.size))
    clear hbel
    have hs7 : w.heap.size ≤ we.heap.size := HN4.out.size
    have HC7 := Lib.hid (HS.out.below (HN4.out.alloc hs7 (.cells #[] 23)))
    have HE7 := Lib.hid (own_empty we we.heap.size (Nat.le_refl _))
    go_wp2_with (first | (at_builtin; refine wpList_append_src rfl _ _ rfl we.heap.size 0 _ [] rfl HE7.out w.heap.size _ l rfl HC7.out ?c1 ?c2 ?_))
    case c1 => omega
    case c2 => first | (simp; done) | (simp; omega)
    intro va7 wa7 hown hgr _
    have HL7 := Lib.hid (came_own (by simpa using hown)).1
    have HO7 := Lib.hid hown
    have HD7 := Lib.hid (((Below.refl we.heap.size we).alloc (Nat.le_refl _) (.cells #[] 23)).grown hgr (by simp) (by intro k hk; simp [Value.ownBlock] at hk; omega))
    have HA7 := Lib.hid (HN4.out.trans (HD7.out.mono hs7))
    clear hown hgr
    have hs8 : w.heap.size ≤ wa7.heap.size := HA7.out.size
    have HC8 := Lib.hid (HT.out.below (HA7.out.alloc hs8 (.cells #[] 23)))
    have HE8 := Lib.hid (own_empty wa7 wa7.heap.size (Nat.le_refl _))
    go_wp2_with (first | (at_builtin; refine wpList_append_src rfl _ _ rfl wa7.heap.size 0 _ [] rfl HE8.out w.heap.size _ m rfl HC8.out ?c1 ?c2 ?_))
    case c1 => omega
    case c2 => first | (simp; done) | (simp; omega)
    intro va8 wa8 hown hgr _
    have HL8 := Lib.hid (came_own (by simpa using hown)).1
    have HO8 := Lib.hid hown
    have HD8 := Lib.hid (((Below.refl wa7.heap.size wa7).alloc (Nat.le_refl _) (.cells #[] 23)).grown hgr (by simp) (by intro k hk; simp [Value.ownBlock] at hk; omega))
    have HA8 := Lib.hid (HA7.out.trans (HD8.out.mono hs8))
    clear hown hgr
    go_wp2_with fail
    refine (sign_v _ _ l m _ (by first | omega | (rw [(turnL_perm _ _).length_eq]; omega)) (by first | omega | (rw [(turnL_perm _ _).length_eq]; omega)) HW.out HX.out ((HL7.out.below HD8.out).mono HD8.out.size) HL8.out).mono ?_
    rintro e wf ⟨rfl, hbel⟩
    have HN5 := Lib.hid (HA8.out.trans (hbel.mono HA8.out.size))
    clear hbel
    have hs9 : w.heap.size ≤ wf.heap.size := HN5.out.size
    go_wp2_with fail
    refine (turned_any _ l at0 _ ((HS.out.below HN5.out).mono hs9) HAT.out (by omega)).mono ?_
    rintro e wa9 ⟨va9, rfl, hown, hbel⟩
    have HL9 := Lib.hid (came_own hown).1
    have HD9 := Lib.hid hbel
    have HA9 := Lib.hid (HN5.out.trans (HD9.out.mono hs9))
    clear hown hbel
    have hs10 : w.heap.size ≤ wa9.heap.size := HA9.out.size
    go_wp2_with fail
    refine (turned_any _ m at0 _ ((HT.out.below HA9.out).mono hs10) HAT2.out (by omega)).mono ?_
    rintro e wa10 ⟨va10, rfl, hown, hbel⟩
    have HL10 := Lib.hid (came_own hown).1
    have HD10 := Lib.hid hbel
    have HA10 := Lib.hid (HA9.out.trans (HD10.out.mono hs10))
    clear hown hbel
    go_wp2_with fail
    refine (sign_v _ _ (turnL l at0) (turnL m at0) _ (by first | omega | (rw [(turnL_perm _ _).length_eq]; omega)) (by first | omega | (rw [(turnL_perm _ _).length_eq]; omega)) (words_perm HW.out (turnL_perm l at0).symm) (words_perm HX.out (turnL_perm m at0).symm) ((HL9.out.below HD10.out).mono HD10.out.size) HL10.out).mono ?_
    rintro e wg ⟨rfl, hbel⟩
    have HN6 := Lib.hid (HA10.out.trans (hbel.mono HA10.out.size))
    clear hbel
    rw [HX3.out.1, HX3.out.2.1, HX3.out.2.2]
    go_wp2_with fail
    refine (agree_any _ _ _ _ _).mono ?_
    rintro e w' ⟨rfl, rfl⟩
    rw [agree_same]
    go_wp2_with fail
    go_ret
    exact ⟨rfl, HN6.out⟩
  · have hne : ((l.length : Int) != (m.length : Int)) = true := by rw [bne_iff_ne]; omega
    clear hw hx hsrc htgt hat hlen
    go_enter Try.func5, Try.ntmps5
    go_wp2_with fail
    refine (awake_any _).mono ?_
    rintro e w1 ⟨rfl, hb1⟩
    have H1 := Lib.hid hb1
    have hsz1 := hb1.size
    clear hb1
    go_wp2_with fail
    refine (start_any k l.length hk (by omega) _).mono ?_
    rintro e w1' ⟨rfl, rfl⟩
    rw [hAt]
    have hs1 : w.heap.size ≤ w1.heap.size := H1.out.size
    have HC1 := Lib.hid (HS.out.below (H1.out.alloc hs1 (.cells #[] 23)))
    have HE1 := Lib.hid (own_empty w1 w1.heap.size (Nat.le_refl _))
    go_wp2_with (first | (at_builtin; refine wpList_append_src rfl _ _ rfl w1.heap.size 0 _ [] rfl HE1.out w.heap.size _ l rfl HC1.out ?c1 ?c2 ?_))
    case c1 => omega
    case c2 => first | (simp; done) | (simp; omega)
    intro va1 wa1 hown hgr _
    have HL1 := Lib.hid (came_own (by simpa using hown)).1
    have HO1 := Lib.hid hown
    have HD1 := Lib.hid (((Below.refl w1.heap.size w1).alloc (Nat.le_refl _) (.cells #[] 23)).grown hgr (by simp) (by intro k hk; simp [Value.ownBlock] at hk; omega))
    have HA1 := Lib.hid (H1.out.trans (HD1.out.mono hs1))
    clear hown hgr
    go_wp2_with fail
    refine (exact_v _ l _ (by omega) HW.out HL1.out).mono ?_
    rintro e wb ⟨rfl, hbel⟩
    have HN1 := Lib.hid (HA1.out.trans (hbel.mono HA1.out.size))
    clear hbel
    have hs2 : w.heap.size ≤ wb.heap.size := HN1.out.size
    go_wp2_with fail
    refine (turned_any _ l at0 _ ((HS.out.below HN1.out).mono hs2) HAT.out (by omega)).mono ?_
    rintro e wa2 ⟨va2, rfl, hown, hbel⟩
    have HL2 := Lib.hid (came_own hown).1
    have HD2 := Lib.hid hbel
    have HA2 := Lib.hid (HN1.out.trans (HD2.out.mono hs2))
    clear hown hbel
    go_wp2_with fail
    refine (exact_v _ (turnL l at0) _ (by rw [(turnL_perm _ _).length_eq]; omega) (words_perm HW.out (turnL_perm l at0).symm) HL2.out).mono ?_
    rintro e wc ⟨rfl, hbel⟩
    have HN2 := Lib.hid (HA2.out.trans (hbel.mono HA2.out.size))
    clear hbel
    rw [HX1.out, HX2.out]
    go_wp2_with fail
    refine (agree_any _ _ _ _ _).mono ?_
    rintro e w' ⟨rfl, rfl⟩
    rw [agree_same]
    go_wp2_with fail
    go_ret
    exact ⟨rfl, HN2.out⟩
end Go.Proofs.Ytlegkefonpiakaa
