/- SealSwap: the walk. Conditions: lists and strings of at most 2^47 bytes. -/
import Derived.Test.YtjfnkdgkkoffeaaS4
import Derived.Test.YtjfnkdgkkoffeaaR12
import Derived.Deep.QuietTactic
import Derived.BigQuiet
import Derived.IntWalk
namespace Go.Proofs.Ytjfnkdgkkoffeaa
open Go.RowKit SealLaw

set_option maxRecDepth 20000 in
set_option maxHeartbeats 2000000 in
theorem swap_walk (src : Value) (ls : List Bytes) (at0 in0 : Nat) (w : World) (hsrc : CameS w w.heap.size src ls) (hlb : ∀ l ∈ ls, l.length ≤ 140737488351232) (hm : ls.length ≤ 8796093022208) (hat : at0 < 18446744073709551616) (hin : in0 < 18446744073709551616) :
    Calls Try.prog 3 #[src, .int .u64 at0, .int .u64 in0] w fun e w' => e = .returned (.bool true) ∧ Below w.heap.size w w' := by
  have HS := Lib.hid hsrc
  have HLB := Lib.hid hlb
  have HAT := Lib.hid hat
  have HIN := Lib.hid hin
  obtain ⟨A, ca, rfl⟩ := hsrc.form
  clear hsrc hlb hat hin
  by_cases hez : sealErr ls = 0
  · have HEZ := Lib.hid hez
    have hfit := text_fits hez
    clear hez
    obtain ⟨t, ht⟩ : ∃ t : ByteArray, ⟨(sealT 0 ls).toArray⟩ = t := ⟨_, rfl⟩
    have htl : t.data.toList = sealT 0 ls := by rw [← ht]
    have hts : t.size = (sealT 0 ls).length := by rw [← ht]; rfl
    rw [← hts] at hfit
    have HFIT := Lib.hid hfit
    have HT := Lib.hid ht
    have HTL := Lib.hid htl
    have HTS := Lib.hid hts
    clear ht htl hts hfit
    by_cases h0 : ls.length = 0
    · have hz : ((ls.length : Int) == 0) = true := by rw [h0]; rfl
      clear h0
      go_enter Try.func3, Try.ntmps3
      go_wp2_with fail
      refine (awake_any _).mono ?_
      rintro e w1 ⟨rfl, hb⟩
      have B1 := Lib.hid hb
      clear hb
      have HC1 := Lib.hid (HS.out.below (B1.out.alloc B1.out.size (.cells #[] 9)))
      have HE1 := Lib.hid (own_emptyS w1)
      go_wp2_with (first | (at_builtin; refine wpList_append_srcS rfl _ _ rfl w1.heap.size 0 _ [] rfl HE1.out w.heap.size _ ls rfl HC1.out ?c1 ?c2 ?_))
      case c1 => omega
      case c2 => first | (simp; done) | (simp; omega)
      intro va wa hown hgr _
      have HO1 := Lib.hid (show wa.ownsRow w1.heap.size 9 1 va ls.length (strs ls) from by simpa using hown)
      have HD1 := Lib.hid (((Below.refl w1.heap.size w1).alloc (Nat.le_refl _) (.cells #[] 9)).grown hgr (by simp) (by intro k hk; simp [Value.ownBlock] at hk; omega))
      have HA1 := Lib.hid (B1.out.trans (HD1.out.mono B1.out.size))
      clear hown hgr
      have hseal := seal_full ls w1.heap.size va wa HO1.out HLB.out
      rw [HEZ.out, if_pos rfl, HT.out] at hseal
      go_wp2_with fail
      refine hseal.mono ?_
      rintro e wb ⟨rfl, hb⟩
      have B2 := Lib.hid (HA1.out.trans (hb.mono HA1.out.size))
      clear hb hseal
      go_wp2
      go_ret
      exact ⟨rfl, by first | exact B2.out | exact B2.out.drew | exact below_drw B2.out _⟩
    · have hz : ((ls.length : Int) == 0) = false := by rw [beq_eq_false_iff_ne]; omega
      have hlt : at0 % ls.length < ls.length := Nat.mod_lt _ (by omega)
      have hrem : ((at0 : Int)) % (ls.length : Int) = ((at0 % ls.length : Nat) : Int) := by omega
      obtain ⟨n, hn⟩ : ∃ n, at0 % ls.length = n := ⟨_, rfl⟩
      rw [hn] at hlt hrem
      have hwr := wrap64u ls.length (by omega)
      clear hn h0
      go_enter Try.func3, Try.ntmps3
      go_wp2_with fail
      refine (awake_any _).mono ?_
      rintro e w1 ⟨rfl, hb⟩
      have B1 := Lib.hid hb
      clear hb
      have HC1 := Lib.hid (HS.out.below (B1.out.alloc B1.out.size (.cells #[] 9)))
      have HE1 := Lib.hid (own_emptyS w1)
      go_wp2_with (first | (at_builtin; refine wpList_append_srcS rfl _ _ rfl w1.heap.size 0 _ [] rfl HE1.out w.heap.size _ ls rfl HC1.out ?c1 ?c2 ?_))
      case c1 => omega
      case c2 => first | (simp; done) | (simp; omega)
      intro va wa hown hgr _
      have HO1 := Lib.hid (show wa.ownsRow w1.heap.size 9 1 va ls.length (strs ls) from by simpa using hown)
      have HD1 := Lib.hid (((Below.refl w1.heap.size w1).alloc (Nat.le_refl _) (.cells #[] 9)).grown hgr (by simp) (by intro k hk; simp [Value.ownBlock] at hk; omega))
      have HA1 := Lib.hid (B1.out.trans (HD1.out.mono B1.out.size))
      clear hown hgr
      have hseal := seal_full ls w1.heap.size va wa HO1.out HLB.out
      rw [HEZ.out, if_pos rfl, HT.out] at hseal
      go_wp2_with fail
      refine hseal.mono ?_
      rintro e wb ⟨rfl, hb⟩
      have B2 := Lib.hid (HA1.out.trans (hb.mono HA1.out.size))
      clear hb hseal
      obtain ⟨g, o, rfl, hcell⟩ : ∃ g o, A = some ⟨g, o, none⟩ ∧ wb.cell? ⟨g, o + n, none⟩ = some (.string ⟨(ls.getD n []).toArray⟩) := by
        obtain ⟨A', ca', hv, hc⟩ := (HS.out.below B2.out).sin
        cases hv
        exact hc n hlt
      have hLb : (ls.getD n []).length ≤ 65536 := by
        obtain ⟨_, h6, _⟩ := sealErr_zero HEZ.out
        have h7 := longK_succ hlt
        have h8 := Nat.le_trans (longK_mono ls (show n + 1 ≤ ls.length from hlt)) h6
        omega
      have hPL := fun j hj => place_law (ls := ls) (n := n) (j := j) hlt hj
      have hSW := fun j hj hne => swap_law HEZ.out (n := n) (j := j) hlt hj hne
      have HPL := Lib.hid hPL
      have HSW := Lib.hid hSW
      obtain ⟨L, hL⟩ : ∃ L, ls.getD n [] = L := ⟨_, rfl⟩
      rw [hL] at HPL HSW hcell hLb
      obtain ⟨b, hbb⟩ : ∃ b : ByteArray, b = ⟨L.toArray⟩ := ⟨_, rfl⟩
      have hbs : b.size = L.length := by rw [hbb]; rfl
      rw [← hbb] at hcell
      clear hPL hSW hL hbb
      by_cases hl2 : L.length < 2
      · have hl2' : decide ((L.length : Int) < 2) = true := by rw [decide_eq_true_eq]; omega
        go_wp2
        go_ret
        exact ⟨rfl, by first | exact B2.out | exact B2.out.drew | exact below_drw B2.out _⟩
      · have hl2' : decide ((L.length : Int) < 2) = false := by rw [decide_eq_false_iff_not]; omega
        go_wp2_with fail
        go_loopw [10, 11] (fun vf vi wr => ∃ k f : Nat, k ≤ n ∧ vi = .int .i64 k ∧ vf = .int .i64 f ∧ f ≤ 65536 ∧ f = fromL ls k ∧ Drawn wb wr) (fun _ vi _ => n - (intOf vi).toNat)
        case atStart => exact ⟨0, 0, Nat.zero_le _, rfl, rfl, by omega, rfl, Drawn.refl _⟩
        case round =>
          obtain ⟨k, f, hk, rfl, rfl, hf, hfk, ⟨md, rfl⟩⟩ := hrel
          have HFK := Lib.hid hfk
          clear hfk
          by_cases hkn : k < n
          · have hcell2 : wb.cell? ⟨g, o + k, none⟩ = some (.string ⟨(ls.getD k []).toArray⟩) := by
              obtain ⟨A', ca', hv, hc⟩ := (HS.out.below B2.out).sin
              cases hv
              obtain ⟨g2, o2, h1, h2⟩ := hc k (by omega)
              cases h1
              exact h2
            have hfs := fromL_succ (ls := ls) (n := k) (l := ls.getD k []) (by rw [List.getD_eq_getElem?_getD, List.getElem?_eq_getElem (show k < ls.length from by omega)]; rfl)
            have hfl : fromL ls (k + 1) ≤ 65536 := by
              obtain ⟨_, h6, _⟩ := sealErr_zero HEZ.out
              exact Nat.le_trans (longK_mono ls (show k + 1 ≤ ls.length from by omega)) h6
            obtain ⟨K, hK⟩ : ∃ K, ls.getD k [] = K := ⟨_, rfl⟩
            rw [hK] at hcell2 hfs
            obtain ⟨kb, hkb⟩ : ∃ kb : ByteArray, kb = ⟨K.toArray⟩ := ⟨_, rfl⟩
            have hks : kb.size = K.length := by rw [hkb]; rfl
            rw [← hkb] at hcell2
            have HFS := Lib.hid hfs
            have hKl : f + (K.length + 10) ≤ 65536 := by have := HFK.out; omega
            have HKL := Lib.hid hKl
            have hKs : K.length ≤ 65526 := by omega
            clear hK hkb hfs hfl hKl
            go_wp2
            go_roundw
            case rel => exact ⟨k + 1, f + (K.length + 10), by omega, by go_num, by go_num, HKL.out, by rw [HFS.out, HFK.out], ⟨_, rfl⟩⟩
            case measure => first | (simp [intOf]; done) | (simp [intOf]; omega)
          · have hkn2 : k = n := by omega
            subst hkn2
            have hmod : in0 % (L.length - 1) < L.length - 1 := Nat.mod_lt _ (by omega)
            have hrem2 : ((in0 : Int)) % ((L.length : Int) - 1) = ((in0 % (L.length - 1) : Nat) : Int) := by
              rw [show ((L.length : Int) - 1) = ((L.length - 1 : Nat) : Int) from by omega]; rfl
            obtain ⟨j, hj⟩ : ∃ j, in0 % (L.length - 1) = j := ⟨_, rfl⟩
            rw [hj] at hmod hrem2
            have hwr2 : IntKind.u64.wrap ((L.length : Int) - 1) = (L.length : Int) - 1 := by
              rw [show ((L.length : Int) - 1) = ((L.length - 1 : Nat) : Int) from by omega]; exact wrap64u _ (by omega)
            obtain ⟨TA, TB, hTs, hTA⟩ := HPL.out j (by omega)
            rw [← HFK.out] at hTA
            obtain ⟨i, hi⟩ : ∃ i, f + j = i := ⟨_, rfl⟩
            rw [hi] at hTA
            have htsz : i + 2 ≤ t.size := by
              rw [HTS.out, hTs, List.length_append, List.length_cons, List.length_cons]; omega
            have hfit2 := HFIT.out
            have hget0 : t.data.toList.getD i 0 = L.getD j 0 := by
              rw [HTL.out, hTs, List.getD_eq_getElem?_getD, List.getElem?_append_right (by omega), hTA]; simp
            have hget1 : t.data.toList.getD (i + 1) 0 = L.getD (j + 1) 0 := by
              rw [HTL.out, hTs, List.getD_eq_getElem?_getD, List.getElem?_append_right (by omega), hTA]; simp [show i + 1 - i = 1 from by omega]
            have hb0 := bL_at t i
            have hb1 := bL_at t (i + 1)
            have hv0 : bL t i = (L.getD j 0).toNat := by unfold bL; rw [hget0]
            have hv1 : bL t (i + 1) = (L.getD (j + 1) 0).toNat := by unfold bL; rw [hget1]
            obtain ⟨z0, hz0⟩ : ∃ z, bL t i = z := ⟨_, rfl⟩
            obtain ⟨z1, hz1⟩ : ∃ z, bL t (i + 1) = z := ⟨_, rfl⟩
            rw [hz0] at hb0 hv0
            rw [hz1] at hb1 hv1
            have hnl : decide ((t.size : Int) < (i : Int) + 2) = false := by rw [decide_eq_false_iff_not]; omega
            have hle2 : decide ((i : Int) + 2 ≤ (t.size : Int)) = true := by rw [decide_eq_true_eq]; omega
            have hlt0 : i < t.size := by omega
            have hlt1 : i + 1 < t.size := by omega
            have hfj : (f : Int) + (j : Int) = (i : Int) := by omega
            have hw1 : IntKind.i64.wrap ((i : Int) + 1) = (i : Int) + 1 := IntWalk.i64_in _ (by omega)
            have hw2 : IntKind.i64.wrap ((i : Int) + 2) = (i : Int) + 2 := IntWalk.i64_in _ (by omega)
            have hn1 : ((i : Int) + 1).toNat = i + 1 := by omega
            have HV0 := Lib.hid hv0
            have HV1 := Lib.hid hv1
            have HJ := Lib.hid hj
            have HTA := Lib.hid hTA
            have HTsz := Lib.hid hTs
            have HI := Lib.hid hi
            clear hv0 hv1 hz0 hz1 hget0 hget1 hTs hTA hj hi
            by_cases hzz : z0 = z1
            · have hzb : ((z0 : Int) == (z1 : Int)) = true := by rw [hzz]; simp
              have HZZ := Lib.hid hzz
              clear hzz
              go_wp2_with fail
              go_quiet (fail)
              all_goals go_wp2
              all_goals go_ret
              all_goals exact ⟨rfl, below_drw B2.out _⟩
            · have hzb : ((z0 : Int) == (z1 : Int)) = false := by rw [beq_eq_false_iff_ne]; omega
              have hcc : L.getD j 0 ≠ L.getD (j + 1) 0 := by
                intro e; apply hzz; rw [HV0.out, HV1.out, e]
              obtain ⟨SA, SB, hSs, hSA, hSe, hSl, hSk⟩ := HSW.out j (by omega) hcc
              rw [← HFK.out, HI.out] at hSA
              clear hzz hcc
              have z1 : (t.extract 0 i).size = i := by rw [ByteArray.size_extract]; omega
              have z2 : (t.extract (i + 1) (i + 2)).size = 1 := by rw [ByteArray.size_extract]; omega
              have z3 : (t.extract i (i + 1)).size = 1 := by rw [ByteArray.size_extract]; omega
              have z4 : (t.extract (i + 2) t.size).size = t.size - (i + 2) := by rw [ByteArray.size_extract]; omega
              have r1 : ∀ u : World, (Op.stringOp .add (t.extract 0 i) (t.extract (i + 1) (i + 2))).run Try.prog u = .ok (.string (t.extract 0 i ++ t.extract (i + 1) (i + 2))) u := fun u => run_string_add_sum u _ _ (by rw [z1, z2]; omega)
              obtain ⟨s1, hs1⟩ : ∃ s1 : ByteArray, t.extract 0 i ++ t.extract (i + 1) (i + 2) = s1 := ⟨_, rfl⟩
              have y1 : s1.size = i + 1 := by rw [← hs1, ByteArray.size_append, z1, z2]
              have r2 : ∀ u : World, (Op.stringOp .add s1 (t.extract i (i + 1))).run Try.prog u = .ok (.string (s1 ++ t.extract i (i + 1))) u := fun u => run_string_add_sum u _ _ (by rw [y1, z3]; omega)
              obtain ⟨s2, hs2⟩ : ∃ s2 : ByteArray, s1 ++ t.extract i (i + 1) = s2 := ⟨_, rfl⟩
              have y2 : s2.size = i + 2 := by rw [← hs2, ByteArray.size_append, y1, z3]
              have r3 : ∀ u : World, (Op.stringOp .add s2 (t.extract (i + 2) t.size)).run Try.prog u = .ok (.string (s2 ++ t.extract (i + 2) t.size)) u := fun u => run_string_add_sum u _ _ (by rw [y2, z4]; omega)
              obtain ⟨s3, hs3⟩ : ∃ s3 : ByteArray, s2 ++ t.extract (i + 2) t.size = s3 := ⟨_, rfl⟩
              rw [hs1] at r1
              rw [hs2] at r2
              rw [hs3] at r3
              have hl3 : s3.data.toList = SA ++ L.getD (j + 1) 0 :: L.getD j 0 :: SB := by
                rw [← hs3, ← hs2, ← hs1, extract_eq, extract_eq, extract_eq, extract_eq, take_all, HTL.out, hSs]
                have t1 : (SA ++ L.getD j 0 :: L.getD (j + 1) 0 :: SB).take i = SA := by rw [List.take_left' hSA]
                have t2 : ((SA ++ L.getD j 0 :: L.getD (j + 1) 0 :: SB).take (i + 2)).drop (i + 1) = [L.getD (j + 1) 0] := by
                  rw [List.take_append, List.take_of_length_le (by omega), List.drop_append, List.drop_of_length_le (by omega), hSA, show i + 2 - i = 2 from by omega, show i + 1 - i = 1 from by omega]; rfl
                have t3 : ((SA ++ L.getD j 0 :: L.getD (j + 1) 0 :: SB).take (i + 1)).drop i = [L.getD j 0] := by
                  rw [List.take_append, List.take_of_length_le (by omega), List.drop_append, List.drop_of_length_le (by omega), hSA, show i + 1 - i = 1 from by omega, show i - i = 0 from by omega]; rfl
                have t4 : (SA ++ L.getD j 0 :: L.getD (j + 1) 0 :: SB).drop (i + 2) = SB := by
                  rw [List.drop_append, List.drop_of_length_le (by omega), hSA, show i + 2 - i = 2 from by omega]; rfl
                rw [t1, t2, t3, t4]
                simp [ByteArray.data_append]
              have hlk := look_full s3
              rw [hl3, hSe] at hlk
              obtain ⟨Y, hY⟩ : ∃ Y, (lookR (SA ++ L.getD (j + 1) 0 :: L.getD j 0 :: SB)).2 = Y := ⟨_, rfl⟩
              obtain ⟨X, hX⟩ : ∃ X, (lookR (SA ++ L.getD (j + 1) 0 :: L.getD j 0 :: SB)).1 = X := ⟨_, rfl⟩
              rw [hY] at hSl hSk
              rw [hY, hX] at hlk
              have HSL := Lib.hid hSl
              have HSK := Lib.hid hSk
              have hwd : IntKind.i64.wrap ((i : Int) + 1) = (i : Int) + 1 := hw1
              clear hs1 hs2 hs3 hl3 hSs hSA hSe hSl hSk hY hX z1 z2 z3 z4 y1 y2
              go_wp2_with fail
              go_quiet (fail)
              all_goals go_wp2_with fail
              go_quiet (fail)
              all_goals go_wp2_with fail
              refine (hlk _).mono ?_
              rintro e wd ⟨v1, v2, rfl, _, hy, hb⟩
              have Y1 := Lib.hid hy
              have B4 := Lib.hid ((below_drw B2.out _).trans (hb.mono (below_drw B2.out _).size))
              have hyl := own_len hy
              obtain ⟨A4, c4, rfl⟩ := own_form hy
              have hlen4 : ((Y.length : Int) != (ls.length : Int)) = false := by rw [HSL.out]; simp
              clear hy hb hlk
              go_wp2_with fail
              go_loopw [16] (fun vi wr => ∃ q : Nat, q ≤ Y.length ∧ vi = .int .i64 q ∧ Drawn wd wr) (fun vi _ => Y.length - (intOf vi).toNat)
              case atStart => exact ⟨0, Nat.zero_le _, rfl, Drawn.refl _⟩
              case round =>
                obtain ⟨q, hq, rfl, ⟨mf, rfl⟩⟩ := hrel
                by_cases hql : q < Y.length
                · obtain ⟨gy, rfl, hcell⟩ := err_cell Y1.out hql
                  have hqv := HSK.out q (by rw [← HSL.out]; exact hql)
                  rw [hqv] at hcell
                  clear hqv
                  by_cases hqn : q = k
                  · subst hqn
                    have e1 : ((q : Int) == (q : Int)) = true := by simp
                    have e2 : ((q : Int) != (q : Int)) = false := by simp
                    rw [if_pos rfl] at hcell
                    go_wp2
                    go_roundw
                    case rel => exact ⟨q + 1, by omega, by go_num, ⟨_, rfl⟩⟩
                    case measure => first | (simp [intOf]; done) | (simp [intOf]; omega)
                  · have e1 : ((q : Int) == (k : Int)) = false := by rw [beq_eq_false_iff_ne]; omega
                    have e2 : ((q : Int) != (k : Int)) = true := by rw [bne_iff_ne]; omega
                    rw [if_neg hqn] at hcell
                    clear hqn
                    go_wp2
                    go_roundw
                    case rel => exact ⟨q + 1, by omega, by go_num, ⟨_, rfl⟩⟩
                    case measure => first | (simp [intOf]; done) | (simp [intOf]; omega)
                · have hqk : q = Y.length := by omega
                  subst hqk
                  go_wp2
                  go_ret
                  exact ⟨rfl, below_drw B4.out _⟩
  · have HEZ := Lib.hid hez
    clear hez
    go_enter Try.func3, Try.ntmps3
    go_wp2_with fail
    refine (awake_any _).mono ?_
    rintro e w1 ⟨rfl, hb⟩
    have B1 := Lib.hid hb
    clear hb
    have HC1 := Lib.hid (HS.out.below (B1.out.alloc B1.out.size (.cells #[] 9)))
    have HE1 := Lib.hid (own_emptyS w1)
    go_wp2_with (first | (at_builtin; refine wpList_append_srcS rfl _ _ rfl w1.heap.size 0 _ [] rfl HE1.out w.heap.size _ ls rfl HC1.out ?c1 ?c2 ?_))
    case c1 => omega
    case c2 => first | (simp; done) | (simp; omega)
    intro va wa hown hgr _
    have HO1 := Lib.hid (show wa.ownsRow w1.heap.size 9 1 va ls.length (strs ls) from by simpa using hown)
    have HD1 := Lib.hid (((Below.refl w1.heap.size w1).alloc (Nat.le_refl _) (.cells #[] 9)).grown hgr (by simp) (by intro k hk; simp [Value.ownBlock] at hk; omega))
    have HA1 := Lib.hid (B1.out.trans (HD1.out.mono B1.out.size))
    clear hown hgr
    have hseal := seal_full ls w1.heap.size va wa HO1.out HLB.out
    rw [if_neg HEZ.out] at hseal
    obtain ⟨E, hE⟩ : ∃ E, sealErr ls = E := ⟨_, rfl⟩
    have hez := HEZ.out
    rw [hE] at hseal hez
    have he1 : ((E : Int) != 0) = true := by rw [bne_iff_ne]; omega
    clear hE hez
    go_wp2_with fail
    refine hseal.mono ?_
    rintro e wb ⟨rfl, hb⟩
    have B2 := Lib.hid (HA1.out.trans (hb.mono HA1.out.size))
    clear hb hseal
    go_wp2
    go_ret
    exact ⟨rfl, B2.out⟩
end Go.Proofs.Ytjfnkdgkkoffeaa
