/- SealByte: the walk. Conditions: lists and strings of at most 2^47 bytes. -/
import Derived.Test.YtjfnkdgkkoffeaaS3
import Derived.Test.YtjfnkdgkkoffeaaR10
namespace Go.Proofs.Ytjfnkdgkkoffeaa
open Go.RowKit SealLaw

def cnt (T : Bytes) (k : Nat) : Nat := ((T.take k).filter (· == 10)).length
theorem cnt_succ {T : Bytes} {k : Nat} (h : k < T.length) : cnt T (k + 1) = cnt T k + (if T.getD k 0 = 10 then 1 else 0) := by
  unfold cnt
  rw [List.take_succ_eq_append_getElem h, List.filter_append, List.length_append, List.getD_eq_getElem?_getD, List.getElem?_eq_getElem h]
  congr 1
  show _ = if T[k] = 10 then 1 else 0
  by_cases h10 : T[k] = 10
  · rw [if_pos h10]; simp [h10]
  · rw [if_neg h10]; simp [h10]
theorem cnt_le (T : Bytes) (k : Nat) : cnt T k ≤ k := Nat.le_trans (List.length_filter_le ..) (by rw [List.length_take]; omega)

set_option maxRecDepth 20000 in
set_option maxHeartbeats 2000000 in
theorem byte_walk (src : Value) (ls : List Bytes) (at0 dv : Nat) (w : World) (hsrc : CameS w w.heap.size src ls) (hlb : ∀ l ∈ ls, l.length ≤ 140737488351232) (hm : ls.length ≤ 8796093022208) (hat : at0 < 18446744073709551616) (hdv : dv < 256) :
    Calls Try.prog 6 #[src, .int .u64 at0, .int .u8 dv] w fun e w' => e = .returned (.bool true) ∧ Below w.heap.size w w' := by
  have HS := Lib.hid hsrc
  have HLB := Lib.hid hlb
  obtain ⟨A, ca, rfl⟩ := hsrc.form
  have HAT := Lib.hid hat
  have HDV := Lib.hid hdv
  clear hsrc hlb hat hdv
  by_cases hez : sealErr ls = 0
  · have HEZ := Lib.hid hez
    have hfit := text_fits hez
    clear hez
    obtain ⟨t, ht⟩ : ∃ t : ByteArray, ⟨(sealT 0 ls).toArray⟩ = t := ⟨_, rfl⟩
    have htl : t.data.toList = sealT 0 ls := by rw [← ht]
    have hts : t.size = (sealT 0 ls).length := by rw [← ht]; rfl
    rw [← hts] at hfit
    have HFIT := Lib.hid hfit
    have HT := Lib.hid ht
    have HTL := Lib.hid htl
    have HTS := Lib.hid hts
    clear ht htl hts hfit
    by_cases h0 : t.size = 0
    · have hte : (t.toList == []) = true := by
        rw [ByteArray.toList_eq, beq_iff_eq, ← List.length_eq_zero_iff]; simpa using h0
      clear h0
      go_enter Try.func6, Try.ntmps6
      go_wp2_with fail
      refine (awake_any _).mono ?_
      rintro e w1 ⟨rfl, hb⟩
      have B1 := Lib.hid hb
      clear hb
      have HC1 := Lib.hid (HS.out.below (B1.out.alloc B1.out.size (.cells #[] 9)))
      have HE1 := Lib.hid (own_emptyS w1)
      go_wp2_with (first | (at_builtin; refine wpList_append_srcS rfl _ _ rfl w1.heap.size 0 _ [] rfl HE1.out w.heap.size _ ls rfl HC1.out ?c1 ?c2 ?_))
      case c1 => omega
      case c2 => first | (simp; done) | (simp; omega)
      intro va wa hown hgr _
      have HO1 := Lib.hid (show wa.ownsRow w1.heap.size 9 1 va ls.length (strs ls) from by simpa using hown)
      have HD1 := Lib.hid (((Below.refl w1.heap.size w1).alloc (Nat.le_refl _) (.cells #[] 9)).grown hgr (by simp) (by intro k hk; simp [Value.ownBlock] at hk; omega))
      have HA1 := Lib.hid (B1.out.trans (HD1.out.mono B1.out.size))
      clear hown hgr
      have hseal := seal_full ls w1.heap.size va wa HO1.out HLB.out
      rw [HEZ.out, if_pos rfl, HT.out] at hseal
      go_wp2_with fail
      refine hseal.mono ?_
      rintro e wb ⟨rfl, hb⟩
      have B2 := Lib.hid (HA1.out.trans (hb.mono HA1.out.size))
      clear hb hseal
      go_wp2
      go_ret
      exact ⟨rfl, by first | exact B2.out | exact B2.out.drew | exact below_drw B2.out _⟩
    · have hte : (t.toList == []) = false := by
        rw [ByteArray.toList_eq, beq_eq_false_iff_ne]; intro e; apply h0
        have := congrArg List.length e; simpa using this
      have hlt : at0 % t.size < t.size := Nat.mod_lt _ (by omega)
      have hrem : ((at0 : Int)) % (t.size : Int) = ((at0 % t.size : Nat) : Int) := by omega
      obtain ⟨i, hi⟩ : ∃ i, at0 % t.size = i := ⟨_, rfl⟩
      rw [hi] at hlt hrem
      have hib : i ≤ 65536 := by have := HFIT.out; omega
      have hsz64 := wrap64u t.size (by have := HFIT.out; omega)
      clear hi h0
      have hbt := bL_at t i
      obtain ⟨c, hc⟩ : ∃ c, bL t i = c := ⟨_, rfl⟩
      rw [hc] at hbt
      have HC := Lib.hid hc
      clear hc
      by_cases h1 : c = 10
      · subst h1
        go_enter Try.func6, Try.ntmps6
        go_wp2_with fail
        refine (awake_any _).mono ?_
        rintro e w1 ⟨rfl, hb⟩
        have B1 := Lib.hid hb
        clear hb
        have HC1 := Lib.hid (HS.out.below (B1.out.alloc B1.out.size (.cells #[] 9)))
        have HE1 := Lib.hid (own_emptyS w1)
        go_wp2_with (first | (at_builtin; refine wpList_append_srcS rfl _ _ rfl w1.heap.size 0 _ [] rfl HE1.out w.heap.size _ ls rfl HC1.out ?c1 ?c2 ?_))
        case c1 => omega
        case c2 => first | (simp; done) | (simp; omega)
        intro va wa hown hgr _
        have HO1 := Lib.hid (show wa.ownsRow w1.heap.size 9 1 va ls.length (strs ls) from by simpa using hown)
        have HD1 := Lib.hid (((Below.refl w1.heap.size w1).alloc (Nat.le_refl _) (.cells #[] 9)).grown hgr (by simp) (by intro k hk; simp [Value.ownBlock] at hk; omega))
        have HA1 := Lib.hid (B1.out.trans (HD1.out.mono B1.out.size))
        clear hown hgr
        have hseal := seal_full ls w1.heap.size va wa HO1.out HLB.out
        rw [HEZ.out, if_pos rfl, HT.out] at hseal
        go_wp2_with fail
        refine hseal.mono ?_
        rintro e wb ⟨rfl, hb⟩
        have B2 := Lib.hid (HA1.out.trans (hb.mono HA1.out.size))
        clear hb hseal
        go_wp2
        go_ret
        exact ⟨rfl, by first | exact B2.out | exact B2.out.drew | exact below_drw B2.out _⟩
      · have h1' : ((c : Int) == 10) = false := by rw [beq_eq_false_iff_ne]; omega
        by_cases h2 : dv = 10
        · subst h2
          clear h1
          go_enter Try.func6, Try.ntmps6
          go_wp2_with fail
          refine (awake_any _).mono ?_
          rintro e w1 ⟨rfl, hb⟩
          have B1 := Lib.hid hb
          clear hb
          have HC1 := Lib.hid (HS.out.below (B1.out.alloc B1.out.size (.cells #[] 9)))
          have HE1 := Lib.hid (own_emptyS w1)
          go_wp2_with (first | (at_builtin; refine wpList_append_srcS rfl _ _ rfl w1.heap.size 0 _ [] rfl HE1.out w.heap.size _ ls rfl HC1.out ?c1 ?c2 ?_))
          case c1 => omega
          case c2 => first | (simp; done) | (simp; omega)
          intro va wa hown hgr _
          have HO1 := Lib.hid (show wa.ownsRow w1.heap.size 9 1 va ls.length (strs ls) from by simpa using hown)
          have HD1 := Lib.hid (((Below.refl w1.heap.size w1).alloc (Nat.le_refl _) (.cells #[] 9)).grown hgr (by simp) (by intro k hk; simp [Value.ownBlock] at hk; omega))
          have HA1 := Lib.hid (B1.out.trans (HD1.out.mono B1.out.size))
          clear hown hgr
          have hseal := seal_full ls w1.heap.size va wa HO1.out HLB.out
          rw [HEZ.out, if_pos rfl, HT.out] at hseal
          go_wp2_with fail
          refine hseal.mono ?_
          rintro e wb ⟨rfl, hb⟩
          have B2 := Lib.hid (HA1.out.trans (hb.mono HA1.out.size))
          clear hb hseal
          go_wp2
          go_ret
          exact ⟨rfl, by first | exact B2.out | exact B2.out.drew | exact below_drw B2.out _⟩
        · have h2' : ((dv : Int) == 10) = false := by rw [beq_eq_false_iff_ne]; omega
          by_cases h3 : c = dv
          · subst h3
            clear h1 h2
            go_enter Try.func6, Try.ntmps6
            go_wp2_with fail
            refine (awake_any _).mono ?_
            rintro e w1 ⟨rfl, hb⟩
            have B1 := Lib.hid hb
            clear hb
            have HC1 := Lib.hid (HS.out.below (B1.out.alloc B1.out.size (.cells #[] 9)))
            have HE1 := Lib.hid (own_emptyS w1)
            go_wp2_with (first | (at_builtin; refine wpList_append_srcS rfl _ _ rfl w1.heap.size 0 _ [] rfl HE1.out w.heap.size _ ls rfl HC1.out ?c1 ?c2 ?_))
            case c1 => omega
            case c2 => first | (simp; done) | (simp; omega)
            intro va wa hown hgr _
            have HO1 := Lib.hid (show wa.ownsRow w1.heap.size 9 1 va ls.length (strs ls) from by simpa using hown)
            have HD1 := Lib.hid (((Below.refl w1.heap.size w1).alloc (Nat.le_refl _) (.cells #[] 9)).grown hgr (by simp) (by intro k hk; simp [Value.ownBlock] at hk; omega))
            have HA1 := Lib.hid (B1.out.trans (HD1.out.mono B1.out.size))
            clear hown hgr
            have hseal := seal_full ls w1.heap.size va wa HO1.out HLB.out
            rw [HEZ.out, if_pos rfl, HT.out] at hseal
            go_wp2_with fail
            refine hseal.mono ?_
            rintro e wb ⟨rfl, hb⟩
            have B2 := Lib.hid (HA1.out.trans (hb.mono HA1.out.size))
            clear hb hseal
            go_wp2
            go_ret
            exact ⟨rfl, by first | exact B2.out | exact B2.out.drew | exact below_drw B2.out _⟩
          · have h3' : ((c : Int) == (dv : Int)) = false := by rw [beq_eq_false_iff_ne]; omega
            have HN := Lib.hid (And.intro h1 (And.intro h2 h3))
            clear h1 h2 h3
            go_enter Try.func6, Try.ntmps6
            go_wp2_with fail
            refine (awake_any _).mono ?_
            rintro e w1 ⟨rfl, hb⟩
            have B1 := Lib.hid hb
            clear hb
            have HC1 := Lib.hid (HS.out.below (B1.out.alloc B1.out.size (.cells #[] 9)))
            have HE1 := Lib.hid (own_emptyS w1)
            go_wp2_with (first | (at_builtin; refine wpList_append_srcS rfl _ _ rfl w1.heap.size 0 _ [] rfl HE1.out w.heap.size _ ls rfl HC1.out ?c1 ?c2 ?_))
            case c1 => omega
            case c2 => first | (simp; done) | (simp; omega)
            intro va wa hown hgr _
            have HO1 := Lib.hid (show wa.ownsRow w1.heap.size 9 1 va ls.length (strs ls) from by simpa using hown)
            have HD1 := Lib.hid (((Below.refl w1.heap.size w1).alloc (Nat.le_refl _) (.cells #[] 9)).grown hgr (by simp) (by intro k hk; simp [Value.ownBlock] at hk; omega))
            have HA1 := Lib.hid (B1.out.trans (HD1.out.mono B1.out.size))
            clear hown hgr
            have hseal := seal_full ls w1.heap.size va wa HO1.out HLB.out
            rw [HEZ.out, if_pos rfl, HT.out] at hseal
            go_wp2_with fail
            refine hseal.mono ?_
            rintro e wb ⟨rfl, hb⟩
            have B2 := Lib.hid (HA1.out.trans (hb.mono HA1.out.size))
            clear hb hseal
            go_wp2_with fail
            go_loopw [10, 11] (fun vl vi wr => ∃ k m : Nat, k ≤ i ∧ vi = .int .i64 k ∧ vl = .int .i64 m ∧ m ≤ 65537 ∧ m = cnt (sealT 0 ls) k + 1 ∧ Drawn wb wr) (fun _ vi _ => i - (intOf vi).toNat)
            case atStart => exact ⟨0, 1, Nat.zero_le _, rfl, rfl, by omega, rfl, Drawn.refl _⟩
            case round =>
              obtain ⟨k, m, hk, rfl, rfl, hmb, hmc, ⟨md, rfl⟩⟩ := hrel
              have HMC := Lib.hid hmc
              clear hmc
              by_cases hki : k < i
              · have hbk := bL_at t k
                have hbe : bL t k = ((sealT 0 ls).getD k 0).toNat := by unfold bL; rw [HTL.out]
                have hsu := cnt_succ (T := sealT 0 ls) (k := k) (by rw [← HTS.out]; omega)
                obtain ⟨z, hz⟩ : ∃ z, bL t k = z := ⟨_, rfl⟩
                rw [hz] at hbk
                have hkt : k < t.size := by omega
                by_cases hz10 : z = 10
                · have hg : (sealT 0 ls).getD k 0 = 10 := UInt8.toNat_inj.1 (by rw [← hbe, hz, hz10]; rfl)
                  rw [if_pos hg] at hsu
                  have HSU := Lib.hid hsu
                  have hcl := cnt_le (sealT 0 ls) (k + 1)
                  have HCL : Hid (m + 1 ≤ 65537) := Lib.hid (by have := HMC.out; omega)
                  subst hz10
                  clear hsu hbe hz hg hcl
                  go_wp2
                  go_roundw
                  case rel => exact ⟨k + 1, m + 1, by omega, by go_num, by go_num, HCL.out, by rw [HSU.out, HMC.out], ⟨_, rfl⟩⟩
                  case measure => first | (simp [intOf]; done) | (simp [intOf]; omega)
                · have hg : ¬ (sealT 0 ls).getD k 0 = 10 := by intro e; apply hz10; rw [← hz, hbe, e]; rfl
                  rw [if_neg hg] at hsu
                  have HSU := Lib.hid hsu
                  have hzf : ((z : Int) == 10) = false := by rw [beq_eq_false_iff_ne]; omega
                  clear hsu hbe hz hg hz10
                  go_wp2
                  go_roundw
                  case rel => exact ⟨k + 1, m, by omega, by go_num, rfl, hmb, by rw [HSU.out, HMC.out], ⟨_, rfl⟩⟩
                  case measure => first | (simp [intOf]; done) | (simp [intOf]; omega)
              · have hki2 : k = i := by omega
                subst hki2
                obtain ⟨d8, hd8⟩ : ∃ d8 : UInt8, d8.toNat = dv := ⟨UInt8.ofNat dv, by have := HDV.out; simp; omega⟩
                have hconv : ∀ u : World, (convert 38 9 (.slice (some ⟨u.heap.size, 0, none⟩) 1 1)).run Try.prog (u.alloc (.cells #[.int .u8 (dv : Nat)] 5)) = .ok (.string ⟨#[d8]⟩) (u.alloc (.cells #[.int .u8 (dv : Nat)] 5)) := fun u => by
                  have h5 := run_convert_bytes_back (u.alloc (.cells #[.int .u8 (dv : Nat)] 5)) 38 9 5 ⟨u.heap.size, 0, none⟩ 1 [d8] Try.underlying38 Try.underlying5 Try.underlying9 (by
                    intro j hj
                    simp at hj; subst hj
                    have := cell_one_new u (.int .u8 (dv : Nat)) 5 0 _ rfl
                    rw [this]; simp [hd8])
                  exact h5
                have hconv2 : ∀ mm : Nat, (convert 38 9 (.slice (some ⟨wb.heap.size, 0, none⟩) 1 1)).run Try.prog ((wb.drewN mm).alloc (.cells #[.int .u8 (dv : Nat)] 5)) = .ok (.string ⟨#[d8]⟩) ((wb.drewN mm).alloc (.cells #[.int .u8 (dv : Nat)] 5)) := fun mm => hconv (wb.drewN mm)
                clear hconv
                have z1 : (t.extract 0 k).size = k := by rw [ByteArray.size_extract]; omega
                have z2 : (t.extract (k + 1) t.size).size = t.size - (k + 1) := by rw [ByteArray.size_extract]; omega
                have r1 : ∀ u : World, (Op.stringOp .add (t.extract 0 k) ⟨#[d8]⟩).run Try.prog u = .ok (.string (t.extract 0 k ++ ⟨#[d8]⟩)) u := fun u => run_string_add_sum u _ _ (by rw [z1]; show _ + 1 ≤ _; omega)
                obtain ⟨s1, hs1⟩ : ∃ s1 : ByteArray, t.extract 0 k ++ ⟨#[d8]⟩ = s1 := ⟨_, rfl⟩
                have z3 : s1.size = k + 1 := by rw [← hs1, ByteArray.size_append, z1]; rfl
                have r2 : ∀ u : World, (Op.stringOp .add s1 (t.extract (k + 1) t.size)).run Try.prog u = .ok (.string (s1 ++ t.extract (k + 1) t.size)) u := fun u => run_string_add_sum u _ _ (by rw [z3, z2]; have := HFIT.out; omega)
                obtain ⟨s2, hs2⟩ : ∃ s2 : ByteArray, s1 ++ t.extract (k + 1) t.size = s2 := ⟨_, rfl⟩
                rw [hs1] at r1
                rw [hs2] at r2
                have hs2l : s2.data.toList = (sealT 0 ls).take k ++ d8 :: (sealT 0 ls).drop (k + 1) := by
                  rw [← hs2, ← hs1, extract_eq, extract_eq, ← HTL.out, take_all]
                  simp [ByteArray.data_append]
                have HS2 := Lib.hid hs2l
                clear hs1 hs2 hs2l z1 z2 z3
                have hT : bL t k = ((sealT 0 ls).getD k 0).toNat := by unfold bL; rw [HTL.out]
                obtain ⟨y, hr, hy, he, hlen2, hrest⟩ := byte_law HEZ.out (i := k) (d := d8) (by rw [← HTS.out]; exact hlt)
                  (by intro e; apply HN.out.1; rw [← HC.out, hT, e]; rfl) (by intro e; apply HN.out.2.1; rw [← hd8, e]; rfl) (by intro e; apply HN.out.2.2; rw [← HC.out, hT, e, hd8])
                have hrd := read_any s2
                have hlk := look_full s2
                rw [HS2.out] at hrd hlk
                have hm1 : (((sealT 0 ls).take k).filter (· == 10)).length + 1 = m := HMC.out.symm
                rw [hm1] at hr
                rw [hr] at hrd
                rw [he] at hlk
                have hlen3 : (lookR ((sealT 0 ls).take k ++ d8 :: (sealT 0 ls).drop (k + 1))).2.length = ls.length := hlen2
                obtain ⟨Y, hY⟩ : ∃ Y, (lookR ((sealT 0 ls).take k ++ d8 :: (sealT 0 ls).drop (k + 1))).2 = Y := ⟨_, rfl⟩
                obtain ⟨X, hX⟩ : ∃ X, (lookR ((sealT 0 ls).take k ++ d8 :: (sealT 0 ls).drop (k + 1))).1 = X := ⟨_, rfl⟩
                rw [hY, hX] at hlk
                rw [hY] at hlen3
                have hgood : ∀ j, j < ls.length → j + 1 ≠ m → j ≠ m → Y.getD j 0 = 0 := fun j h1 h2 h3 => by rw [← hY]; exact hrest j h1 (by omega) (by omega)
                have HG := Lib.hid hgood
                have HL3 := Lib.hid hlen3
                have hm0 : 1 ≤ m := by omega
                have hye : ((y : Int) != 90 && (y : Int) != 230) = false := by rcases hy with rfl | rfl <;> decide
                clear hr hy he hlen2 hrest hm1 hY hX hgood hlen3 hT hd8
                go_wp2
                go_region
                all_goals go_wp2_with fail
                refine (hrd _).mono ?_
                rintro e wc ⟨vr, rfl, hx, hb⟩
                have B3 := Lib.hid (((below_drw B2.out (md + 1)).alloc B2.out.size (.cells #[.int .u8 (dv : Nat)] 5)).trans (hb.mono ((below_drw B2.out (md + 1)).alloc B2.out.size (.cells #[.int .u8 (dv : Nat)] 5)).size))
                obtain ⟨A3, c3, rfl⟩ := own_form hx
                clear hx hb hrd
                have HM0 := Lib.hid hm0
                have hye1 : y = 90 ∨ y = 230 := by
                  rcases Nat.decEq y 90 with h | h
                  · rcases Nat.decEq y 230 with h' | h'
                    · exfalso
                      have e1 : ((y : Int) != 90) = true := by rw [bne_iff_ne]; omega
                      have e2 : ((y : Int) != 230) = true := by rw [bne_iff_ne]; omega
                      rw [e1, e2] at hye; cases hye
                    · exact Or.inr h'
                  · exact Or.inl h
                clear hye hm0
                rcases hye1 with rfl | rfl
                · go_wp2_with fail
                  refine (hlk _).mono ?_
                  rintro e wd ⟨v1, v2, rfl, _, hy, hb⟩
                  have Y1 := Lib.hid hy
                  have B4 := Lib.hid (B3.out.trans (hb.mono B3.out.size))
                  have hyl := own_len hy
                  obtain ⟨A4, c4, rfl⟩ := own_form hy
                  have hlen4 : ((Y.length : Int) != (ls.length : Int)) = false := by rw [HL3.out]; simp
                  clear hy hb hlk
                  go_wp2_with fail
                  go_loopw [17] (fun vi wr => ∃ j : Nat, j ≤ Y.length ∧ vi = .int .i64 j ∧ Drawn wd wr) (fun vi _ => Y.length - (intOf vi).toNat)
                  case atStart => exact ⟨0, Nat.zero_le _, rfl, Drawn.refl _⟩
                  case round =>
                    obtain ⟨j, hj, rfl, ⟨mf, rfl⟩⟩ := hrel
                    by_cases hjl : j < Y.length
                    · obtain ⟨gy, rfl, hcell⟩ := err_cell Y1.out hjl
                      by_cases j1 : j + 1 = m
                      · have hj1 : ((j : Int) != (m : Int) - 1) = false := by
                          have : (j : Int) = (m : Int) - 1 := by omega
                          rw [this]; simp
                        clear j1
                        go_wp2
                        go_roundw
                        case rel => exact ⟨j + 1, by omega, by go_num, ⟨_, rfl⟩⟩
                        case measure => first | (simp [intOf]; done) | (simp [intOf]; omega)
                      · have hj1 : ((j : Int) != (m : Int) - 1) = true := by rw [bne_iff_ne]; omega
                        by_cases j2 : j = m
                        · have hj2 : ((j : Int) != (m : Int)) = false := by rw [j2]; simp
                          clear j1 j2
                          go_wp2
                          go_roundw
                          case rel => exact ⟨j + 1, by omega, by go_num, ⟨_, rfl⟩⟩
                          case measure => first | (simp [intOf]; done) | (simp [intOf]; omega)
                        · have hj2 : ((j : Int) != (m : Int)) = true := by rw [bne_iff_ne]; omega
                          rw [HG.out j (by rw [← HL3.out]; exact hjl) j1 j2] at hcell
                          clear j1 j2
                          go_wp2
                          go_roundw
                          case rel => exact ⟨j + 1, by omega, by go_num, ⟨_, rfl⟩⟩
                          case measure => first | (simp [intOf]; done) | (simp [intOf]; omega)
                    · have hjk : j = Y.length := by omega
                      subst hjk
                      go_wp2
                      go_ret
                      exact ⟨rfl, below_drw B4.out _⟩
                · go_wp2_with fail
                  refine (hlk _).mono ?_
                  rintro e wd ⟨v1, v2, rfl, _, hy, hb⟩
                  have Y1 := Lib.hid hy
                  have B4 := Lib.hid (B3.out.trans (hb.mono B3.out.size))
                  have hyl := own_len hy
                  obtain ⟨A4, c4, rfl⟩ := own_form hy
                  have hlen4 : ((Y.length : Int) != (ls.length : Int)) = false := by rw [HL3.out]; simp
                  clear hy hb hlk
                  go_wp2_with fail
                  go_loopw [17] (fun vi wr => ∃ j : Nat, j ≤ Y.length ∧ vi = .int .i64 j ∧ Drawn wd wr) (fun vi _ => Y.length - (intOf vi).toNat)
                  case atStart => exact ⟨0, Nat.zero_le _, rfl, Drawn.refl _⟩
                  case round =>
                    obtain ⟨j, hj, rfl, ⟨mf, rfl⟩⟩ := hrel
                    by_cases hjl : j < Y.length
                    · obtain ⟨gy, rfl, hcell⟩ := err_cell Y1.out hjl
                      by_cases j1 : j + 1 = m
                      · have hj1 : ((j : Int) != (m : Int) - 1) = false := by
                          have : (j : Int) = (m : Int) - 1 := by omega
                          rw [this]; simp
                        clear j1
                        go_wp2
                        go_roundw
                        case rel => exact ⟨j + 1, by omega, by go_num, ⟨_, rfl⟩⟩
                        case measure => first | (simp [intOf]; done) | (simp [intOf]; omega)
                      · have hj1 : ((j : Int) != (m : Int) - 1) = true := by rw [bne_iff_ne]; omega
                        by_cases j2 : j = m
                        · have hj2 : ((j : Int) != (m : Int)) = false := by rw [j2]; simp
                          clear j1 j2
                          go_wp2
                          go_roundw
                          case rel => exact ⟨j + 1, by omega, by go_num, ⟨_, rfl⟩⟩
                          case measure => first | (simp [intOf]; done) | (simp [intOf]; omega)
                        · have hj2 : ((j : Int) != (m : Int)) = true := by rw [bne_iff_ne]; omega
                          rw [HG.out j (by rw [← HL3.out]; exact hjl) j1 j2] at hcell
                          clear j1 j2
                          go_wp2
                          go_roundw
                          case rel => exact ⟨j + 1, by omega, by go_num, ⟨_, rfl⟩⟩
                          case measure => first | (simp [intOf]; done) | (simp [intOf]; omega)
                    · have hjk : j = Y.length := by omega
                      subst hjk
                      go_wp2
                      go_ret
                      exact ⟨rfl, below_drw B4.out _⟩
  · have HEZ := Lib.hid hez
    clear hez
    go_enter Try.func6, Try.ntmps6
    go_wp2_with fail
    refine (awake_any _).mono ?_
    rintro e w1 ⟨rfl, hb⟩
    have B1 := Lib.hid hb
    clear hb
    have HC1 := Lib.hid (HS.out.below (B1.out.alloc B1.out.size (.cells #[] 9)))
    have HE1 := Lib.hid (own_emptyS w1)
    go_wp2_with (first | (at_builtin; refine wpList_append_srcS rfl _ _ rfl w1.heap.size 0 _ [] rfl HE1.out w.heap.size _ ls rfl HC1.out ?c1 ?c2 ?_))
    case c1 => omega
    case c2 => first | (simp; done) | (simp; omega)
    intro va wa hown hgr _
    have HO1 := Lib.hid (show wa.ownsRow w1.heap.size 9 1 va ls.length (strs ls) from by simpa using hown)
    have HD1 := Lib.hid (((Below.refl w1.heap.size w1).alloc (Nat.le_refl _) (.cells #[] 9)).grown hgr (by simp) (by intro k hk; simp [Value.ownBlock] at hk; omega))
    have HA1 := Lib.hid (B1.out.trans (HD1.out.mono B1.out.size))
    clear hown hgr
    have hseal := seal_full ls w1.heap.size va wa HO1.out HLB.out
    rw [if_neg HEZ.out] at hseal
    obtain ⟨E, hE⟩ : ∃ E, sealErr ls = E := ⟨_, rfl⟩
    have hez := HEZ.out
    rw [hE] at hseal hez
    have he1 : ((E : Int) != 0) = true := by rw [bne_iff_ne]; omega
    clear hE hez
    go_wp2_with fail
    refine hseal.mono ?_
    rintro e wb ⟨rfl, hb⟩
    have B2 := Lib.hid (HA1.out.trans (hb.mono HA1.out.size))
    clear hb hseal
    go_wp2
    go_ret
    exact ⟨rfl, B2.out⟩
end Go.Proofs.Ytjfnkdgkkoffeaa
