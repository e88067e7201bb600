/- TotSigns: the walk. Conditions: lists of at most 2^47 bytes. -/
import Derived.Test.YtlegkefonpiakaaV4
namespace Go.Proofs.Ytlegkefonpiakaa
open Go.RowKit

set_option maxHeartbeats 4000000 in
theorem signs_walk (src tgt : Value) (l m : List Nat) (w : World) (hsrc : Came w w.heap.size src l) (htgt : Came w w.heap.size tgt m) (hw : Words l) (hx : Words m) (hm : l.length ≤ 17592186043904) (hm2 : m.length ≤ 17592186043904) :
    Calls Try.prog 6 #[src, tgt] w fun e w' => e = .returned (.bool true) ∧ Below w.heap.size w w' := by
  have HW := Lib.hid hw
  have HX := Lib.hid hx
  have HS := Lib.hid hsrc
  have HT := Lib.hid htgt
  obtain ⟨i0, hi, hz0, hz1, hz2⟩ := info_parts Try.info23
  obtain ⟨A, ca, rfl⟩ := hsrc.form
  obtain ⟨B, cb, rfl⟩ := htgt.form
  clear hw hx hsrc htgt
  go_enter Try.func6, Try.ntmps6
  go_wp2_with fail
  refine (awake_any _).mono ?_
  rintro e w1 ⟨rfl, hb1⟩
  have H1 := Lib.hid hb1
  have hsz1 := hb1.size
  clear hb1
  have hs1 : w.heap.size ≤ w1.heap.size := H1.out.size
  have HC1 := Lib.hid (HS.out.below (H1.out.alloc hs1 (.cells #[] 23)))
  have HE1 := Lib.hid (own_empty w1 w1.heap.size (Nat.le_refl _))
  go_wp2_with (first | (at_builtin; refine wpList_append_src rfl _ _ rfl w1.heap.size 0 _ [] rfl HE1.out w.heap.size _ l rfl HC1.out ?c1 ?c2 ?_))
  case c1 => omega
  case c2 => first | (simp; done) | (simp; omega)
  intro va1 wa1 hown hgr _
  have HL1 := Lib.hid (came_own (by simpa using hown)).1
  have HO1 := Lib.hid hown
  have HD1 := Lib.hid (((Below.refl w1.heap.size w1).alloc (Nat.le_refl _) (.cells #[] 23)).grown hgr (by simp) (by intro k hk; simp [Value.ownBlock] at hk; omega))
  have HA1 := Lib.hid (H1.out.trans (HD1.out.mono hs1))
  clear hown hgr
  have hs2 : w.heap.size ≤ wa1.heap.size := HA1.out.size
  have HC2 := Lib.hid (HT.out.below (HA1.out.alloc hs2 (.cells #[] 23)))
  have HE2 := Lib.hid (own_empty wa1 wa1.heap.size (Nat.le_refl _))
  go_wp2_with (first | (at_builtin; refine wpList_append_src rfl _ _ rfl wa1.heap.size 0 _ [] rfl HE2.out w.heap.size _ m rfl HC2.out ?c1 ?c2 ?_))
  case c1 => omega
  case c2 => first | (simp; done) | (simp; omega)
  intro va2 wa2 hown hgr _
  have HL2 := Lib.hid (came_own (by simpa using hown)).1
  have HO2 := Lib.hid hown
  have HD2 := Lib.hid (((Below.refl wa1.heap.size wa1).alloc (Nat.le_refl _) (.cells #[] 23)).grown hgr (by simp) (by intro k hk; simp [Value.ownBlock] at hk; omega))
  have HA2 := Lib.hid (HA1.out.trans (HD2.out.mono hs2))
  clear hown hgr
  go_wp2_with fail
  refine (dot_v _ _ l m _ (by omega) (by omega) HW.out HX.out ((HL1.out.below HD2.out).mono HD2.out.size) HL2.out).mono ?_
  rintro e wd ⟨rfl, hbel⟩
  have HN1 := Lib.hid (HA2.out.trans (hbel.mono HA2.out.size))
  clear hbel
  have hs3 : w.heap.size ≤ wd.heap.size := HN1.out.size
  have HC3 := Lib.hid (HS.out.below (HN1.out.alloc hs3 (.cells #[] 23)))
  have HE3 := Lib.hid (own_empty wd wd.heap.size (Nat.le_refl _))
  go_wp2_with (first | (at_builtin; refine wpList_append_src rfl _ _ rfl wd.heap.size 0 _ [] rfl HE3.out w.heap.size _ l rfl HC3.out ?c1 ?c2 ?_))
  case c1 => omega
  case c2 => first | (simp; done) | (simp; omega)
  intro va3 wa3 hown hgr _
  have HL3 := Lib.hid (came_own (by simpa using hown)).1
  have HO3 := Lib.hid hown
  have HD3 := Lib.hid (((Below.refl wd.heap.size wd).alloc (Nat.le_refl _) (.cells #[] 23)).grown hgr (by simp) (by intro k hk; simp [Value.ownBlock] at hk; omega))
  have HA3 := Lib.hid (HN1.out.trans (HD3.out.mono hs3))
  clear hown hgr
  have hs4 : w.heap.size ≤ wa3.heap.size := HA3.out.size
  have HC4 := Lib.hid (HT.out.below (HA3.out.alloc hs4 (.cells #[] 23)))
  have HE4 := Lib.hid (own_empty wa3 wa3.heap.size (Nat.le_refl _))
  go_wp2_with (first | (at_builtin; refine wpList_append_src rfl _ _ rfl wa3.heap.size 0 _ [] rfl HE4.out w.heap.size _ m rfl HC4.out ?c1 ?c2 ?_))
  case c1 => omega
  case c2 => first | (simp; done) | (simp; omega)
  intro va4 wa4 hown hgr _
  have HL4 := Lib.hid (came_own (by simpa using hown)).1
  have HO4 := Lib.hid hown
  have HD4 := Lib.hid (((Below.refl wa3.heap.size wa3).alloc (Nat.le_refl _) (.cells #[] 23)).grown hgr (by simp) (by intro k hk; simp [Value.ownBlock] at hk; omega))
  have HA4 := Lib.hid (HA3.out.trans (HD4.out.mono hs4))
  clear hown hgr
  go_wp2_with fail
  refine (sign_v _ _ l m _ (by omega) (by omega) HW.out HX.out ((HL3.out.below HD4.out).mono HD4.out.size) HL4.out).mono ?_
  rintro e we ⟨rfl, hbel⟩
  have HN2 := Lib.hid (HA4.out.trans (hbel.mono HA4.out.size))
  clear hbel
  obtain ⟨E, hE⟩ : ∃ E, dotErr fitB l m = E := ⟨_, rfl⟩
  obtain ⟨S, hS⟩ : ∃ S, signR fitB l m = S := ⟨_, rfl⟩
  obtain ⟨D, hD⟩ : ∃ D, dotR fitB l m = D := ⟨_, rfl⟩
  have HSG := Lib.hid (dot_sign HW.out HX.out)
  rw [hS, hD] at HSG
  rw [hE, hS, hD]
  clear hE hS hD
  rcases HSG.out with ⟨rfl, g1, g2⟩ | ⟨rfl, g1, g2⟩ | ⟨rfl, g1, g2⟩
  · have g1' := g1
    have g2' := g2
    unfold o64 at g1' g2'
    clear g1 g2 HSG
    go_wp2_with fail
    go_loopw [9, 10] (fun vn vi wr => ∃ k : Nat, k ≤ l.length ∧ vi = .int .i64 k ∧ wr.ownsRow w.heap.size 23 1 vn k (flts ((l.map negW).take k)) ∧ Below w.heap.size w wr) (fun _ vi _ => l.length - (intOf vi).toNat)
    case atStart => exact ⟨0, Nat.zero_le _, rfl, World.ownsRow_nil _ _ _ _, HN2.out⟩
    case round =>
      obtain ⟨k, hk, rfl, hown, hbel⟩ := hrel
      have HB := Lib.hid hbel
      have HR := Lib.hid hown
      have hsz := hbel.size
      clear hown hbel
      by_cases hlt : k < l.length
      · obtain ⟨bl, ol, rfl, hcell⟩ := (HS.out.below HB.out).cell hlt
        have hnl := neg_take hlt
        have hneg : Op.negFloat .f64 (l.getD k 0) = negW (l.getD k 0) := negFloat_eq (HW.out _ (getD_mem hlt))
        obtain ⟨x, hx⟩ : ∃ x, l.getD k 0 = x := ⟨_, rfl⟩
        rw [hx] at hcell hnl hneg
        have HNL := Lib.hid hnl
        have hun : ∀ u : World, (Op.unary .neg (.float .f64 x)).run Try.prog u = .ok (.float .f64 (negW x)) u := fun u => by
          rw [← hneg]; rfl
        clear hx hnl hneg
        have HO := Lib.hid (HR.out.alloc (.cells #[.float .f64 (negW x)] 23))
        have HP := Lib.hid (HB.out.alloc hsz (.cells #[.float .f64 (negW x)] 23))
        go_wp2_with (first | (at_builtin; refine wpList_append_own_at _ rfl _ _ 22 rfl w.heap.size 23 i0 (.float .f64 0) 1 8 Try.underlying22 hi hz0 hz1 hz2 rfl (by decide) _ _ _ rfl HO.out ⟨wr.heap.size, 0, none⟩ 1 1 [.float .f64 (negW x)] rfl rfl ?c1 ?c2 ?c3 ?c4 ?c5 ?_))
        case c1 => exact cell_one_new _ _ _
        case c2 => simp [Value.oneCell']
        case c3 => unfold maxLen; omega
        case c4 => omega
        case c5 => simp; omega
        intro v' wn hown hgr _ _
        rw [HNL.out] at hown
        have HQ := Lib.hid (HP.out.grown hgr (by simp; omega) (fun k hk => (HO.out.lt k hk).1))
        have HU := Lib.hid hown
        clear hown hgr
        go_wp2
        go_roundw
        case rel => exact ⟨k + 1, by omega, by go_num, HU.out, HQ.out⟩
        case measure => first | (simp [intOf]; done) | (simp [intOf]; omega)
      · have hkl : k = l.length := by omega
        have hrow := HR.out
        rw [hkl, List.take_of_length_le (by simp)] at hrow
        have HRL := Lib.hid hrow
        have hck := check_neg l
        obtain ⟨hok, hval⟩ := exact_neg HW.out
        have hsub := run_fv hok
        rw [hval] at hsub
        have HCK := Lib.hid hck
        clear HR hrow hkl hck hok hval
        have hs5 : w.heap.size ≤ wr.heap.size := HB.out.size
        have HC5 := Lib.hid (HS.out.below (HB.out.alloc hs5 (.cells #[] 23)))
        have HE5 := Lib.hid (own_empty wr wr.heap.size (Nat.le_refl _))
        go_wp2_with (first | (at_builtin; refine wpList_append_src rfl _ _ rfl wr.heap.size 0 _ [] rfl HE5.out w.heap.size _ l rfl HC5.out ?c1 ?c2 ?_))
        case c1 => omega
        case c2 => first | (simp; done) | (simp; omega)
        intro va5 wa5 hown hgr _
        have HL5 := Lib.hid (came_own (by simpa using hown)).1
        have HO5 := Lib.hid hown
        have HD5 := Lib.hid (((Below.refl wr.heap.size wr).alloc (Nat.le_refl _) (.cells #[] 23)).grown hgr (by simp) (by intro k hk; simp [Value.ownBlock] at hk; omega))
        have HA5 := Lib.hid (HB.out.trans (HD5.out.mono hs5))
        clear hown hgr
        go_wp2_with fail
        refine (exact_v _ l _ (by omega) HW.out HL5.out).mono ?_
        rintro e wf ⟨rfl, hbel⟩
        have HN3 := Lib.hid (HA5.out.trans (hbel.mono HA5.out.size))
        have HRL2 := Lib.hid (own_stays (own_stays HRL.out HD5.out (fun k hk => (HRL.out.lt k hk).2)) hbel (fun k hk => Nat.lt_of_lt_of_le (HRL.out.lt k hk).2 HD5.out.size))
        clear hbel
        go_wp2_with fail
        refine (exact_v _ (l.map negW) _ (by simp; omega) (words_neg HW.out) (came_own HRL2.out).1).mono ?_
        rintro e wg ⟨rfl, hbel⟩
        have HN4 := Lib.hid (HN3.out.trans (hbel.mono HN3.out.size))
        clear hbel
        rw [HCK.out]
        obtain ⟨a, ha⟩ : ∃ a, exactR fitB l = a := ⟨_, rfl⟩
        obtain ⟨b, hb⟩ : ∃ b, exactR fitB (l.map negW) = b := ⟨_, rfl⟩
        rw [ha, hb] at hsub
        rw [ha, hb]
        clear ha hb
        have hsame := same_any b b
        rw [same_self] at hsame
        go_wp2_with fail
        refine (hsame _).mono ?_
        rintro e w' ⟨rfl, rfl⟩
        go_wp2
        go_ret
        exact ⟨rfl, HN4.out⟩
  · have g1' := g1
    have g2' := g2
    unfold o64 at g1' g2'
    clear g1 g2 HSG
    go_wp2_with fail
    go_loopw [9, 10] (fun vn vi wr => ∃ k : Nat, k ≤ l.length ∧ vi = .int .i64 k ∧ wr.ownsRow w.heap.size 23 1 vn k (flts ((l.map negW).take k)) ∧ Below w.heap.size w wr) (fun _ vi _ => l.length - (intOf vi).toNat)
    case atStart => exact ⟨0, Nat.zero_le _, rfl, World.ownsRow_nil _ _ _ _, HN2.out⟩
    case round =>
      obtain ⟨k, hk, rfl, hown, hbel⟩ := hrel
      have HB := Lib.hid hbel
      have HR := Lib.hid hown
      have hsz := hbel.size
      clear hown hbel
      by_cases hlt : k < l.length
      · obtain ⟨bl, ol, rfl, hcell⟩ := (HS.out.below HB.out).cell hlt
        have hnl := neg_take hlt
        have hneg : Op.negFloat .f64 (l.getD k 0) = negW (l.getD k 0) := negFloat_eq (HW.out _ (getD_mem hlt))
        obtain ⟨x, hx⟩ : ∃ x, l.getD k 0 = x := ⟨_, rfl⟩
        rw [hx] at hcell hnl hneg
        have HNL := Lib.hid hnl
        have hun : ∀ u : World, (Op.unary .neg (.float .f64 x)).run Try.prog u = .ok (.float .f64 (negW x)) u := fun u => by
          rw [← hneg]; rfl
        clear hx hnl hneg
        have HO := Lib.hid (HR.out.alloc (.cells #[.float .f64 (negW x)] 23))
        have HP := Lib.hid (HB.out.alloc hsz (.cells #[.float .f64 (negW x)] 23))
        go_wp2_with (first | (at_builtin; refine wpList_append_own_at _ rfl _ _ 22 rfl w.heap.size 23 i0 (.float .f64 0) 1 8 Try.underlying22 hi hz0 hz1 hz2 rfl (by decide) _ _ _ rfl HO.out ⟨wr.heap.size, 0, none⟩ 1 1 [.float .f64 (negW x)] rfl rfl ?c1 ?c2 ?c3 ?c4 ?c5 ?_))
        case c1 => exact cell_one_new _ _ _
        case c2 => simp [Value.oneCell']
        case c3 => unfold maxLen; omega
        case c4 => omega
        case c5 => simp; omega
        intro v' wn hown hgr _ _
        rw [HNL.out] at hown
        have HQ := Lib.hid (HP.out.grown hgr (by simp; omega) (fun k hk => (HO.out.lt k hk).1))
        have HU := Lib.hid hown
        clear hown hgr
        go_wp2
        go_roundw
        case rel => exact ⟨k + 1, by omega, by go_num, HU.out, HQ.out⟩
        case measure => first | (simp [intOf]; done) | (simp [intOf]; omega)
      · have hkl : k = l.length := by omega
        have hrow := HR.out
        rw [hkl, List.take_of_length_le (by simp)] at hrow
        have HRL := Lib.hid hrow
        have hck := check_neg l
        obtain ⟨hok, hval⟩ := exact_neg HW.out
        have hsub := run_fv hok
        rw [hval] at hsub
        have HCK := Lib.hid hck
        clear HR hrow hkl hck hok hval
        have hs5 : w.heap.size ≤ wr.heap.size := HB.out.size
        have HC5 := Lib.hid (HS.out.below (HB.out.alloc hs5 (.cells #[] 23)))
        have HE5 := Lib.hid (own_empty wr wr.heap.size (Nat.le_refl _))
        go_wp2_with (first | (at_builtin; refine wpList_append_src rfl _ _ rfl wr.heap.size 0 _ [] rfl HE5.out w.heap.size _ l rfl HC5.out ?c1 ?c2 ?_))
        case c1 => omega
        case c2 => first | (simp; done) | (simp; omega)
        intro va5 wa5 hown hgr _
        have HL5 := Lib.hid (came_own (by simpa using hown)).1
        have HO5 := Lib.hid hown
        have HD5 := Lib.hid (((Below.refl wr.heap.size wr).alloc (Nat.le_refl _) (.cells #[] 23)).grown hgr (by simp) (by intro k hk; simp [Value.ownBlock] at hk; omega))
        have HA5 := Lib.hid (HB.out.trans (HD5.out.mono hs5))
        clear hown hgr
        go_wp2_with fail
        refine (exact_v _ l _ (by omega) HW.out HL5.out).mono ?_
        rintro e wf ⟨rfl, hbel⟩
        have HN3 := Lib.hid (HA5.out.trans (hbel.mono HA5.out.size))
        have HRL2 := Lib.hid (own_stays (own_stays HRL.out HD5.out (fun k hk => (HRL.out.lt k hk).2)) hbel (fun k hk => Nat.lt_of_lt_of_le (HRL.out.lt k hk).2 HD5.out.size))
        clear hbel
        go_wp2_with fail
        refine (exact_v _ (l.map negW) _ (by simp; omega) (words_neg HW.out) (came_own HRL2.out).1).mono ?_
        rintro e wg ⟨rfl, hbel⟩
        have HN4 := Lib.hid (HN3.out.trans (hbel.mono HN3.out.size))
        clear hbel
        rw [HCK.out]
        obtain ⟨a, ha⟩ : ∃ a, exactR fitB l = a := ⟨_, rfl⟩
        obtain ⟨b, hb⟩ : ∃ b, exactR fitB (l.map negW) = b := ⟨_, rfl⟩
        rw [ha, hb] at hsub
        rw [ha, hb]
        clear ha hb
        have hsame := same_any b b
        rw [same_self] at hsame
        go_wp2_with fail
        refine (hsame _).mono ?_
        rintro e w' ⟨rfl, rfl⟩
        go_wp2
        go_ret
        exact ⟨rfl, HN4.out⟩
  · have g1' := g1
    have g2' := g2
    unfold o64 at g1' g2'
    clear g1 g2 HSG
    go_wp2_with fail
    go_loopw [9, 10] (fun vn vi wr => ∃ k : Nat, k ≤ l.length ∧ vi = .int .i64 k ∧ wr.ownsRow w.heap.size 23 1 vn k (flts ((l.map negW).take k)) ∧ Below w.heap.size w wr) (fun _ vi _ => l.length - (intOf vi).toNat)
    case atStart => exact ⟨0, Nat.zero_le _, rfl, World.ownsRow_nil _ _ _ _, HN2.out⟩
    case round =>
      obtain ⟨k, hk, rfl, hown, hbel⟩ := hrel
      have HB := Lib.hid hbel
      have HR := Lib.hid hown
      have hsz := hbel.size
      clear hown hbel
      by_cases hlt : k < l.length
      · obtain ⟨bl, ol, rfl, hcell⟩ := (HS.out.below HB.out).cell hlt
        have hnl := neg_take hlt
        have hneg : Op.negFloat .f64 (l.getD k 0) = negW (l.getD k 0) := negFloat_eq (HW.out _ (getD_mem hlt))
        obtain ⟨x, hx⟩ : ∃ x, l.getD k 0 = x := ⟨_, rfl⟩
        rw [hx] at hcell hnl hneg
        have HNL := Lib.hid hnl
        have hun : ∀ u : World, (Op.unary .neg (.float .f64 x)).run Try.prog u = .ok (.float .f64 (negW x)) u := fun u => by
          rw [← hneg]; rfl
        clear hx hnl hneg
        have HO := Lib.hid (HR.out.alloc (.cells #[.float .f64 (negW x)] 23))
        have HP := Lib.hid (HB.out.alloc hsz (.cells #[.float .f64 (negW x)] 23))
        go_wp2_with (first | (at_builtin; refine wpList_append_own_at _ rfl _ _ 22 rfl w.heap.size 23 i0 (.float .f64 0) 1 8 Try.underlying22 hi hz0 hz1 hz2 rfl (by decide) _ _ _ rfl HO.out ⟨wr.heap.size, 0, none⟩ 1 1 [.float .f64 (negW x)] rfl rfl ?c1 ?c2 ?c3 ?c4 ?c5 ?_))
        case c1 => exact cell_one_new _ _ _
        case c2 => simp [Value.oneCell']
        case c3 => unfold maxLen; omega
        case c4 => omega
        case c5 => simp; omega
        intro v' wn hown hgr _ _
        rw [HNL.out] at hown
        have HQ := Lib.hid (HP.out.grown hgr (by simp; omega) (fun k hk => (HO.out.lt k hk).1))
        have HU := Lib.hid hown
        clear hown hgr
        go_wp2
        go_roundw
        case rel => exact ⟨k + 1, by omega, by go_num, HU.out, HQ.out⟩
        case measure => first | (simp [intOf]; done) | (simp [intOf]; omega)
      · have hkl : k = l.length := by omega
        have hrow := HR.out
        rw [hkl, List.take_of_length_le (by simp)] at hrow
        have HRL := Lib.hid hrow
        have hck := check_neg l
        obtain ⟨hok, hval⟩ := exact_neg HW.out
        have hsub := run_fv hok
        rw [hval] at hsub
        have HCK := Lib.hid hck
        clear HR hrow hkl hck hok hval
        have hs5 : w.heap.size ≤ wr.heap.size := HB.out.size
        have HC5 := Lib.hid (HS.out.below (HB.out.alloc hs5 (.cells #[] 23)))
        have HE5 := Lib.hid (own_empty wr wr.heap.size (Nat.le_refl _))
        go_wp2_with (first | (at_builtin; refine wpList_append_src rfl _ _ rfl wr.heap.size 0 _ [] rfl HE5.out w.heap.size _ l rfl HC5.out ?c1 ?c2 ?_))
        case c1 => omega
        case c2 => first | (simp; done) | (simp; omega)
        intro va5 wa5 hown hgr _
        have HL5 := Lib.hid (came_own (by simpa using hown)).1
        have HO5 := Lib.hid hown
        have HD5 := Lib.hid (((Below.refl wr.heap.size wr).alloc (Nat.le_refl _) (.cells #[] 23)).grown hgr (by simp) (by intro k hk; simp [Value.ownBlock] at hk; omega))
        have HA5 := Lib.hid (HB.out.trans (HD5.out.mono hs5))
        clear hown hgr
        go_wp2_with fail
        refine (exact_v _ l _ (by omega) HW.out HL5.out).mono ?_
        rintro e wf ⟨rfl, hbel⟩
        have HN3 := Lib.hid (HA5.out.trans (hbel.mono HA5.out.size))
        have HRL2 := Lib.hid (own_stays (own_stays HRL.out HD5.out (fun k hk => (HRL.out.lt k hk).2)) hbel (fun k hk => Nat.lt_of_lt_of_le (HRL.out.lt k hk).2 HD5.out.size))
        clear hbel
        go_wp2_with fail
        refine (exact_v _ (l.map negW) _ (by simp; omega) (words_neg HW.out) (came_own HRL2.out).1).mono ?_
        rintro e wg ⟨rfl, hbel⟩
        have HN4 := Lib.hid (HN3.out.trans (hbel.mono HN3.out.size))
        clear hbel
        rw [HCK.out]
        obtain ⟨a, ha⟩ : ∃ a, exactR fitB l = a := ⟨_, rfl⟩
        obtain ⟨b, hb⟩ : ∃ b, exactR fitB (l.map negW) = b := ⟨_, rfl⟩
        rw [ha, hb] at hsub
        rw [ha, hb]
        clear ha hb
        have hsame := same_any b b
        rw [same_self] at hsame
        go_wp2_with fail
        refine (hsame _).mono ?_
        rintro e w' ⟨rfl, rfl⟩
        go_wp2
        go_ret
        exact ⟨rfl, HN4.out⟩
end Go.Proofs.Ytlegkefonpiakaa
