/- Walks: Energy, the program's and the reference's. Conditions: the masses lie in memory. -/
import Derived.Test.YtjapohjfheielaaE1
import Derived.Test.YtjapohjfheielaaC9
namespace Go.Proofs.Ytjapohjfheielaa
open Go.RowKit
open Ieee (FinW V dR big double wordOf deepD)
attribute [local irreducible] Ieee.V Ieee.Format.rnd fv Ieee.big Ieee.deepD flW sqW hU rN pk kickAt kickS driftS runR runO stepO chk

/-- Energy's error and word -/
noncomputable def enE (gw n : Nat) (S : Nat → Int) : Int := if chk n S = 0 then (if geB gw = true ∧ leB gw = true then 0 else 1) else chk n S
noncomputable def enF (gw n : Nat) (S : Nat → Int) : Nat := if chk n S = 0 then (if geB gw = true ∧ leB gw = true then enW gw n S else 0) else 0

set_option maxRecDepth 100000 in
set_option maxHeartbeats 4000000 in
theorem energyP_any (v : Value) (n gw : Nat) (S : Nat → Int) (w : World) (hv : MIn w v n S) (hn : n ≤ 4398046511104) (hgw : gw < 18446744073709551616) :
    Calls Try.prog 14 #[v, .float .f64 gw] w fun e w' => e = .returned (.tuple #[.float .f64 (enF gw n S), .int .i64 (enE gw n S)]) ∧ Below w.heap.size w w' := by
  have HV := Lib.hid hv
  have HGW := Lib.hid hgw
  obtain ⟨A, cap, rfl⟩ := hv.form
  have hck := checkP_any (.slice A n cap) n S w hv hn
  clear hv hgw
  by_cases hz : chk n S = 0
  · have H8 := Lib.hid (chk_zero.1 hz).1
    have HOK := Lib.hid (chk_zero.1 hz).2
    have HE : Hid (enE gw n S = if geB gw = true ∧ leB gw = true then 0 else 1) := Lib.hid (by unfold enE; rw [if_pos hz])
    have HF : Hid (enF gw n S = if geB gw = true ∧ leB gw = true then enW gw n S else 0) := Lib.hid (by unfold enF; rw [if_pos hz])
    rw [hz] at hck
    have HC := Lib.hid hck
    clear hz hck
    obtain ⟨b1, hb1⟩ : ∃ b, geB gw = b := ⟨_, rfl⟩
    obtain ⟨b2, hb2⟩ : ∃ b, leB gw = b := ⟨_, rfl⟩
    have hge : (o64 gw 0 == some .gt || o64 gw 0 == some .eq) = b1 := hb1
    have hle : (o64 gw 4787326403894837248 == some .lt || o64 gw 4787326403894837248 == some .eq) = b2 := hb2
    have HB1 := Lib.hid hb1
    have HB2 := Lib.hid hb2
    rw [hb1, hb2] at HE HF
    clear hb1 hb2
    rw [HE.out, HF.out]
    clear HE HF
    cases b1
    · rw [if_neg (by simp), if_neg (by simp)]
      go_enter Try.func14, Try.ntmps14
      go_wp2_with (first | (go_at_call 18; refine HC.out.mono ?_; rintro e w' ⟨rfl, rfl⟩))
      go_ret2
      exact ⟨rfl, Below.refl _ _⟩
    cases b2
    · rw [if_neg (by simp), if_neg (by simp)]
      go_enter Try.func14, Try.ntmps14
      go_wp2_with (first | (go_at_call 18; refine HC.out.mono ?_; rintro e w' ⟨rfl, rfl⟩))
      go_ret2
      exact ⟨rfl, Below.refl _ _⟩
    rw [if_pos ⟨rfl, rfl⟩, if_pos ⟨rfl, rfl⟩]
    have HG := Lib.hid (g_fin HGW.out HB1.out HB2.out)
    have HPS : Hid (∀ i, i ≤ n → Sml (potI gw n S (kinS S n) i)) := Lib.hid (fun i hi => potI_sml HG.out.1 HG.out.2.1 HG.out.2.2 HOK.out (kinS_sml HOK.out n (Nat.le_refl _)) i hi)
    have HKS := Lib.hid (fun i hi => kinS_sml HOK.out i hi)
    have HEW : Hid (enW gw n S = fv .add (potI gw n S (kinS S n) n) 0) := Lib.hid rfl
    go_enter Try.func14, Try.ntmps14
    go_wp2_with (first | (go_at_call 18; refine HC.out.mono ?_; rintro e w' ⟨rfl, rfl⟩))
    go_loopw [7, 31] (fun vs vi wr => ∃ i : Nat, i ≤ n ∧ vi = .int .i64 i ∧ vs = .float .f64 (kinS S i) ∧ w = wr) (fun _ vi _ => n - (intOf vi).toNat)
    case atStart => exact ⟨0, Nat.zero_le _, rfl, rfl, rfl⟩
    case round =>
      obtain ⟨i, hi, rfl, rfl, rfl⟩ := hrel
      by_cases hin : i < n
      · obtain ⟨g, o, rfl, hl⟩ := HV.out.cell hin
        have HLI := Lib.hid hl
        clear hl
        have HKW := Lib.hid (kin_word (HOK.out i hin))
        have HMI := Lib.hid (HOK.out i hin).1
        have HSI := Lib.hid (HKS.out i hi)
        obtain ⟨z, hzz⟩ : ∃ z, (fun k => S (i * 7 + 4 + k)) = z := ⟨_, rfl⟩
        have HZ : Hid (∀ k, z k = S (i * 7 + 4 + k)) := Lib.hid (fun k => by rw [← hzz])
        have HKN : Hid (kinS S (i + 1) = fv .add (kinS S i) (fv .quo (sqAdd 0 z 3) (iw (2 * S (i * 7))))) := Lib.hid (by rw [← hzz]; rfl)
        have HKV : Hid (kinW S i = fv .quo (sqAdd 0 z 3) (iw (2 * S (i * 7)))) := Lib.hid (by rw [← hzz]; rfl)
        have HQ : Hid (FOk .quo (sqAdd 0 z 3) (iw (2 * S (i * 7)))) := Lib.hid (by rw [← hzz]; exact HKW.out.1)
        have HSQ : Hid (∀ k, k < 3 → FOk .mul (iw (z k)) (iw (z k)) ∧ FOk .add (sqAdd 0 z k) (fv .mul (iw (z k)) (iw (z k)))) := Lib.hid (by rw [← hzz]; exact HKW.out.2.2.2)
        clear hzz
        obtain ⟨s, hs⟩ : ∃ s, kinS S i = s := ⟨_, rfl⟩
        rw [hs] at HKN HSI ⊢
        clear hs
        go_wp2
        go_loopw [9, 34] (fun vp vk wr => ∃ k : Nat, k ≤ 3 ∧ vk = .int .i64 k ∧ vp = .float .f64 (sqAdd 0 z k) ∧ w = wr) (fun _ vk _ => 3 - (intOf vk).toNat)
        case atStart => exact ⟨0, Nat.zero_le _, rfl, rfl, rfl⟩
        case round =>
          obtain ⟨k, hk, rfl, rfl, rfl⟩ := hrel
          by_cases hk3 : k < 3
          · have cx := HLI.out (i * 7 + 4 + k) (by omega)
            rw [show o + (i * 7 + 4 + k) = o + i * 7 + 4 + k from by omega, ← HZ.out k] at cx
            obtain ⟨f1, f2⟩ := HSQ.out k hk3
            have HNX : Hid (sqAdd 0 z (k + 1) = fv .add (sqAdd 0 z k) (fv .mul (iw (z k)) (iw (z k)))) := Lib.hid rfl
            have r1 := run_fv f1
            have r2 := run_fv f2
            obtain ⟨x, hx⟩ : ∃ x, z k = x := ⟨_, rfl⟩
            rw [hx] at cx r1 r2 HNX
            obtain ⟨D, e0⟩ : ∃ D, floatOfInt FloatKind.f64 x = D := ⟨_, rfl⟩
            have e1 : iw x = D := e0
            rw [e1] at r1 r2 HNX
            obtain ⟨Q, hQ⟩ : ∃ Q, fv .mul D D = Q := ⟨_, rfl⟩
            rw [hQ] at r1 r2 HNX
            obtain ⟨L, hL⟩ : ∃ L, sqAdd 0 z k = L := ⟨_, rfl⟩
            rw [hL] at r2 HNX ⊢
            obtain ⟨N, hN⟩ : ∃ N, fv .add L Q = N := ⟨_, rfl⟩
            rw [hN] at r2 HNX
            clear hx e1 hQ hL hN f1 f2
            go_wp2
            go_roundw
            case rel => exact ⟨k + 1, by omega, by go_num, by rw [HNX.out], trivial⟩
            case measure => first | (simp [intOf]; done) | (simp [intOf]; omega)
          · have hk4 : k = 3 := by omega
            subst hk4
            have cm := HLI.out (i * 7) (by omega)
            have r1 := run_fv HQ.out
            have r2 := run_fv (show FOk .add s (fv .quo (sqAdd 0 z 3) (iw (2 * S (i * 7)))) from by rw [← HKV.out]; exact (HSI.out.add HKW.out.2.1 HKW.out.2.2.1).1)
            have hm1 := HMI.out.1
            have hm2 := HMI.out.2
            have HNX := Lib.hid HKN.out
            obtain ⟨m, hm⟩ : ∃ m, S (i * 7) = m := ⟨_, rfl⟩
            rw [hm] at cm r1 r2 hm1 hm2 HNX
            have w1 : IntKind.i64.wrap (2 * m) = 2 * m := IntWalk.i64_in _ (by omega)
            have w2 : wrap64 (2 * m) = 2 * m := IntWalk.wrap64_in _ (by omega)
            obtain ⟨D, e0⟩ : ∃ D, floatOfInt FloatKind.f64 (2 * m) = D := ⟨_, rfl⟩
            have e1 : iw (2 * m) = D := e0
            rw [e1] at r1 r2 HNX
            obtain ⟨L, hL⟩ : ∃ L, sqAdd 0 z 3 = L := ⟨_, rfl⟩
            rw [hL] at r1 r2 HNX ⊢
            obtain ⟨Q, hQ⟩ : ∃ Q, fv .quo L D = Q := ⟨_, rfl⟩
            rw [hQ] at r1 r2 HNX
            obtain ⟨N, hN⟩ : ∃ N, fv .add s Q = N := ⟨_, rfl⟩
            rw [hN] at r2 HNX
            clear hm e1 hL hQ hN hm1 hm2
            go_wp2
            go_roundw
            case rel => exact ⟨i + 1, by omega, by go_num, by rw [HNX.out], trivial⟩
            case measure => first | (simp [intOf]; done) | (simp [intOf]; omega)
      · have hin2 : n = i := by omega
        subst hin2
        clear hi hin
        obtain ⟨s0, hs0⟩ : ∃ s, kinS S n = s := ⟨_, rfl⟩
        rw [hs0] at HPS HEW ⊢
        clear hs0
        go_wp2
        go_loopw [7, 65] (fun vs vi wr => ∃ i : Nat, i ≤ n ∧ vi = .int .i64 i ∧ vs = .float .f64 (potI gw n S s0 i) ∧ Below w.heap.size w wr) (fun _ vi _ => n - (intOf vi).toNat)
        case atStart => exact ⟨0, Nat.zero_le _, rfl, rfl, Below.refl _ _⟩
        case round =>
          obtain ⟨i, hi, rfl, rfl, hb⟩ := hrel
          have HB := Lib.hid hb
          clear hb
          by_cases hin : i < n
          · obtain ⟨g, o, rfl, hl⟩ := HV.out.cell hin
            have HLI := Lib.hid hl
            have hgl : g < w.heap.size := hl.lt (by omega)
            clear hl
            have HPN : Hid (potI gw n S s0 (i + 1) = potJ gw S i (potI gw n S s0 i) (n - (i + 1))) := Lib.hid rfl
            have HSI := Lib.hid (HPS.out i hi)
            have HOI := Lib.hid (HOK.out i hin)
            obtain ⟨s, hs⟩ : ∃ s, potI gw n S s0 i = s := ⟨_, rfl⟩
            rw [hs] at HPN HSI ⊢
            clear hs
            have HPJ : Hid (∀ t, i + 1 + t ≤ n → Sml (potJ gw S i s t)) := Lib.hid (fun t ht => potJ_sml HG.out.1 HG.out.2.1 HG.out.2.2 HOK.out HSI.out hin t ht)
            go_wp2
            go_loopw [7, 13] (fun vs vj wr => ∃ t : Nat, i + 1 + t ≤ n ∧ vj = .int .i64 ((i + 1 + t : Nat) : Int) ∧ vs = .float .f64 (potJ gw S i s t) ∧ Below w.heap.size w wr) (fun _ vj _ => n - (intOf vj).toNat)
            case atStart => exact ⟨0, by omega, by go_num, rfl, HB.out⟩
            case round =>
              obtain ⟨t, ht, rfl, rfl, hb⟩ := hrel
              have HB2 := Lib.hid hb
              clear hb
              have HPT := Lib.hid (HPJ.out t ht)
              have HTN : Hid (potJ gw S i s (t + 1) = fv .sub (potJ gw S i s t) (potW gw S i (i + 1 + t))) := Lib.hid rfl
              obtain ⟨j, hj⟩ : ∃ j, i + 1 + t = j := ⟨_, rfl⟩
              rw [hj] at HTN ⊢
              have HJ := Lib.hid hj
              have hij : i < j := by omega
              by_cases hjn : j < n
              · have HPW := Lib.hid (pot_word HG.out.1 HG.out.2.1 HG.out.2.2 HOI.out (HOK.out j hjn))
                have HOJ := Lib.hid (HOK.out j hjn)
                obtain ⟨z, hzz⟩ : ∃ z, (fun k => S (j * 7 + 1 + k) - S (i * 7 + 1 + k)) = z := ⟨_, rfl⟩
                have HZ : Hid (∀ k, z k = S (j * 7 + 1 + k) - S (i * 7 + 1 + k)) := Lib.hid (fun k => by rw [← hzz])
                have HWV : Hid (potW gw S i j = fv .quo (fv .mul gw (iw (S (i * 7) * S (j * 7)))) (sqW (sqAdd softW z 3))) := Lib.hid (by rw [← hzz]; rfl)
                have HR : Hid (FOk .mul gw (iw (S (i * 7) * S (j * 7))) ∧ double.sqrt (sqAdd softW z 3) = some (sqW (sqAdd softW z 3)) ∧ FOk .quo (fv .mul gw (iw (S (i * 7) * S (j * 7)))) (sqW (sqAdd softW z 3))) := Lib.hid (by rw [← hzz]; exact ⟨HPW.out.1, HPW.out.2.1, HPW.out.2.2.1⟩)
                have HSQ : Hid (∀ k, k < 3 → FOk .mul (iw (z k)) (iw (z k)) ∧ FOk .add (sqAdd softW z k) (fv .mul (iw (z k)) (iw (z k)))) := Lib.hid (by rw [← hzz]; exact HPW.out.2.2.2.2.2)
                have HSB : Hid (FOk .sub (potJ gw S i s t) (potW gw S i j)) := Lib.hid (HPT.out.sub HPW.out.2.2.2.1 HPW.out.2.2.2.2.1).1
                rw [HWV.out] at HTN HSB
                clear hzz
                obtain ⟨q, hq⟩ : ∃ q, potJ gw S i s t = q := ⟨_, rfl⟩
                rw [hq] at HTN HSB ⊢
                clear hq hj
                go_wp2
                go_loopw [14, 76] (fun vp vk wr => ∃ k : Nat, k ≤ 3 ∧ vk = .int .i64 k ∧ vp = .float .f64 (sqAdd softW z k) ∧ Below w.heap.size w wr) (fun _ vk _ => 3 - (intOf vk).toNat)
                case atStart => exact ⟨0, Nat.zero_le _, rfl, rfl, HB2.out⟩
                case round =>
                  obtain ⟨k, hk, rfl, rfl, hb⟩ := hrel
                  have HB3 := Lib.hid hb
                  clear hb
                  by_cases hk3 : k < 3
                  · have cx := HLI.out (i * 7 + 1 + k) (by omega)
                    rw [← HB3.out.cell (p := ⟨g, o + (i * 7 + 1 + k), none⟩) hgl, show o + (i * 7 + 1 + k) = o + i * 7 + 1 + k from by omega] at cx
                    have cy := HLI.out (j * 7 + 1 + k) (by omega)
                    rw [← HB3.out.cell (p := ⟨g, o + (j * 7 + 1 + k), none⟩) hgl, show o + (j * 7 + 1 + k) = o + j * 7 + 1 + k from by omega] at cy
                    obtain ⟨f1, f2⟩ := HSQ.out k hk3
                    have HNX : Hid (sqAdd softW z (k + 1) = fv .add (sqAdd softW z k) (fv .mul (iw (z k)) (iw (z k)))) := Lib.hid rfl
                    have r1 := run_fv f1
                    have r2 := run_fv f2
                    have hbx := (HOI.out.2 k hk3).1
                    have hby := (HOJ.out.2 k hk3).1
                    rw [HZ.out k] at r1 r2 HNX
                    obtain ⟨x, hx⟩ : ∃ x, S (i * 7 + 1 + k) = x := ⟨_, rfl⟩
                    obtain ⟨y, hy⟩ : ∃ y, S (j * 7 + 1 + k) = y := ⟨_, rfl⟩
                    rw [hx] at cx hbx
                    rw [hy] at cy hby
                    rw [hx, hy] at r1 r2 HNX
                    unfold okX at hbx hby
                    have w1 : IntKind.i64.wrap (y - x) = y - x := IntWalk.i64_in _ (by omega)
                    have w2 : wrap64 (y - x) = y - x := IntWalk.wrap64_in _ (by omega)
                    obtain ⟨D, e0⟩ : ∃ D, floatOfInt FloatKind.f64 (y - x) = D := ⟨_, rfl⟩
                    have e1 : iw (y - x) = D := e0
                    rw [e1] at r1 r2 HNX
                    obtain ⟨Q, hQ⟩ : ∃ Q, fv .mul D D = Q := ⟨_, rfl⟩
                    rw [hQ] at r1 r2 HNX
                    obtain ⟨L, hL⟩ : ∃ L, sqAdd softW z k = L := ⟨_, rfl⟩
                    rw [hL] at r2 HNX ⊢
                    obtain ⟨N, hN⟩ : ∃ N, fv .add L Q = N := ⟨_, rfl⟩
                    rw [hN] at r2 HNX
                    clear hx hy e1 hQ hL hN f1 f2 hbx hby
                    have hki : (k : Int) < 3 := by omega
                    go_wp2
                    go_quiet (fail)
                    go_wp2
                    go_roundw
                    case rel => exact ⟨k + 1, by omega, by go_num, by rw [HNX.out], below_drw HB3.out _⟩
                    case measure => first | (simp [intOf]; done) | (simp [intOf]; omega)
                  · have hk4 : k = 3 := by omega
                    subst hk4
                    have cx := HLI.out (i * 7) (by omega)
                    rw [← HB3.out.cell (p := ⟨g, o + (i * 7), none⟩) hgl] at cx
                    have cy := HLI.out (j * 7) (by omega)
                    rw [← HB3.out.cell (p := ⟨g, o + (j * 7), none⟩) hgl] at cy
                    have r1 := run_fv HR.out.1
                    have r2 := run_fv HR.out.2.2
                    have r3 := run_fv HSB.out
                    have hm1 := HOI.out.1
                    have hm2 := HOJ.out.1
                    have hsq := HR.out.2.1
                    have HNX := Lib.hid HTN.out
                    obtain ⟨x, hx⟩ : ∃ x, S (i * 7) = x := ⟨_, rfl⟩
                    obtain ⟨y, hy⟩ : ∃ y, S (j * 7) = y := ⟨_, rfl⟩
                    rw [hx] at cx hm1
                    rw [hy] at cy hm2
                    rw [hx, hy] at r1 r2 r3 HNX
                    have hxy : 0 ≤ x * y ∧ x * y ≤ 1099511627776 := ⟨Int.mul_nonneg (by omega) (by omega), Int.le_trans (Int.mul_le_mul hm1.2 hm2.2 (by omega) (by omega)) (by decide)⟩
                    obtain ⟨mm, hmm⟩ : ∃ mm, x * y = mm := ⟨_, rfl⟩
                    rw [hmm] at r1 r2 r3 HNX hxy
                    have w1 : IntKind.i64.wrap (x * y) = mm := by rw [hmm]; exact IntWalk.i64_in _ (by omega)
                    have w2 : wrap64 (x * y) = mm := by rw [hmm]; exact IntWalk.wrap64_in _ (by omega)
                    obtain ⟨D, e0⟩ : ∃ D, floatOfInt FloatKind.f64 mm = D := ⟨_, rfl⟩
                    have e1 : iw mm = D := e0
                    rw [e1] at r1 r2 r3 HNX
                    obtain ⟨L, hL⟩ : ∃ L, sqAdd softW z 3 = L := ⟨_, rfl⟩
                    rw [hL] at r2 r3 HNX hsq ⊢
                    obtain ⟨R, hR⟩ : ∃ R, sqW L = R := ⟨_, rfl⟩
                    rw [hR] at r2 r3 HNX hsq
                    obtain ⟨G, hG⟩ : ∃ G, fv .mul gw D = G := ⟨_, rfl⟩
                    rw [hG] at r1 r2 r3 HNX
                    obtain ⟨Q, hQ⟩ : ∃ Q, fv .quo G R = Q := ⟨_, rfl⟩
                    rw [hQ] at r2 r3 HNX
                    obtain ⟨N, hN⟩ : ∃ N, fv .sub q Q = N := ⟨_, rfl⟩
                    rw [hN] at r3 HNX
                    have HSR := Lib.hid hsq
                    clear hx hy e1 hL hR hG hQ hN hm1 hm2 hsq hmm hxy
                    go_wp2
                    go_quiet ((go_at_call 24; refine (sqrt_any HSR.out _).mono ?_; rintro e w'' ⟨rfl, rfl⟩; exact ⟨rfl, _, rfl⟩))
                    go_wp2
                    go_roundw
                    case rel => exact ⟨t + 1, by have := HJ.out; omega, by have := HJ.out; go_num, by rw [HNX.out], below_drw HB3.out _⟩
                    case measure => first | (simp [intOf]; done) | (simp [intOf]; omega)
              · have hjn2 : n = j := by omega
                have HTT : Hid (n - (i + 1) = t) := Lib.hid (by omega)
                have HNX : Hid (potI gw n S s0 (i + 1) = potJ gw S i s t) := Lib.hid (by rw [HPN.out, HTT.out])
                obtain ⟨q, hq⟩ : ∃ q, potJ gw S i s t = q := ⟨_, rfl⟩
                rw [hq] at HNX ⊢
                clear hq hj
                subst hjn2
                go_wp2
                go_roundw
                case rel => exact ⟨i + 1, by omega, by go_num, by rw [HNX.out], HB2.out⟩
                case measure => first | (simp [intOf]; done) | (simp [intOf]; omega)
          · have hin2 : n = i := by omega
            subst hin2
            have r1 := run_fv ((HPS.out n (Nat.le_refl _)).add fin_zero (by rw [V_zero]; exact Nat.zero_le _)).1
            have HNX := Lib.hid HEW.out
            obtain ⟨q, hq⟩ : ∃ q, potI gw n S s0 n = q := ⟨_, rfl⟩
            rw [hq] at r1 HNX ⊢
            obtain ⟨N, hN⟩ : ∃ N, fv .add q 0 = N := ⟨_, rfl⟩
            rw [hN] at r1 HNX
            clear hq hN
            go_wp2
            go_ret2
            exact ⟨by rw [HNX.out]; rfl, HB.out⟩
  · have HE : enE gw n S = chk n S := by unfold enE; rw [if_neg hz]
    have HF : enF gw n S = 0 := by unfold enF; rw [if_neg hz]
    rw [HE, HF]
    obtain ⟨C, hC⟩ : ∃ C, chk n S = C := ⟨_, rfl⟩
    rw [hC] at hck hz ⊢
    have HC := Lib.hid hck
    have hne : (C != 0) = true := by rw [bne_iff_ne]; exact hz
    clear hck hC hz HE HF
    go_enter Try.func14, Try.ntmps14
    go_wp2_with (first | (go_at_call 18; refine HC.out.mono ?_; rintro e w' ⟨rfl, rfl⟩))
    go_ret2
    exact ⟨rfl, Below.refl _ _⟩

set_option maxRecDepth 100000 in
set_option maxHeartbeats 4000000 in
theorem energyR_any (v : Value) (n gw : Nat) (S : Nat → Int) (w : World) (hv : MIn w v n S) (hn : n ≤ 4398046511104) (hgw : gw < 18446744073709551616) :
    Calls Try.prog 15 #[v, .float .f64 gw] w fun e w' => e = .returned (.tuple #[.float .f64 (enF gw n S), .int .i64 (enE gw n S)]) ∧ Below w.heap.size w w' := by
  have HV := Lib.hid hv
  have HGW := Lib.hid hgw
  obtain ⟨A, cap, rfl⟩ := hv.form
  have hck := checkR_any (.slice A n cap) n S w hv hn
  clear hv hgw
  by_cases hz : chk n S = 0
  · have H8 := Lib.hid (chk_zero.1 hz).1
    have HOK := Lib.hid (chk_zero.1 hz).2
    have HE : Hid (enE gw n S = if geB gw = true ∧ leB gw = true then 0 else 1) := Lib.hid (by unfold enE; rw [if_pos hz])
    have HF : Hid (enF gw n S = if geB gw = true ∧ leB gw = true then enW gw n S else 0) := Lib.hid (by unfold enF; rw [if_pos hz])
    rw [hz] at hck
    have HC := Lib.hid hck
    clear hz hck
    obtain ⟨b1, hb1⟩ : ∃ b, geB gw = b := ⟨_, rfl⟩
    obtain ⟨b2, hb2⟩ : ∃ b, leB gw = b := ⟨_, rfl⟩
    have hge : (o64 gw 0 == some .gt || o64 gw 0 == some .eq) = b1 := hb1
    have hle : (o64 gw 4787326403894837248 == some .lt || o64 gw 4787326403894837248 == some .eq) = b2 := hb2
    have HB1 := Lib.hid hb1
    have HB2 := Lib.hid hb2
    rw [hb1, hb2] at HE HF
    clear hb1 hb2
    rw [HE.out, HF.out]
    clear HE HF
    cases b1
    · rw [if_neg (by simp), if_neg (by simp)]
      go_enter Try.func15, Try.ntmps15
      go_wp2_with (first | (go_at_call 19; refine HC.out.mono ?_; rintro e w' ⟨rfl, rfl⟩))
      go_ret2
      exact ⟨rfl, Below.refl _ _⟩
    cases b2
    · rw [if_neg (by simp), if_neg (by simp)]
      go_enter Try.func15, Try.ntmps15
      go_wp2_with (first | (go_at_call 19; refine HC.out.mono ?_; rintro e w' ⟨rfl, rfl⟩))
      go_ret2
      exact ⟨rfl, Below.refl _ _⟩
    rw [if_pos ⟨rfl, rfl⟩, if_pos ⟨rfl, rfl⟩]
    have HG := Lib.hid (g_fin HGW.out HB1.out HB2.out)
    have HPS : Hid (∀ i, i ≤ n → Sml (potI gw n S (kinS S n) i)) := Lib.hid (fun i hi => potI_sml HG.out.1 HG.out.2.1 HG.out.2.2 HOK.out (kinS_sml HOK.out n (Nat.le_refl _)) i hi)
    have HKS := Lib.hid (fun i hi => kinS_sml HOK.out i hi)
    have HEW : Hid (enW gw n S = fv .add (potI gw n S (kinS S n) n) 0) := Lib.hid rfl
    go_enter Try.func15, Try.ntmps15
    go_wp2_with (first | (go_at_call 19; refine HC.out.mono ?_; rintro e w' ⟨rfl, rfl⟩))
    go_loopw [7, 8] (fun vs vi wr => ∃ i : Nat, i ≤ n ∧ vi = .int .i64 i ∧ vs = .float .f64 (kinS S i) ∧ w = wr) (fun _ vi _ => n - (intOf vi).toNat)
    case atStart => exact ⟨0, Nat.zero_le _, rfl, rfl, rfl⟩
    case round =>
      obtain ⟨i, hi, rfl, rfl, rfl⟩ := hrel
      by_cases hin : i < n
      · obtain ⟨g, o, rfl, hl⟩ := HV.out.cell hin
        have HLI := Lib.hid hl
        clear hl
        have HKW := Lib.hid (kin_word (HOK.out i hin))
        have HMI := Lib.hid (HOK.out i hin).1
        have HSI := Lib.hid (HKS.out i hi)
        obtain ⟨z, hzz⟩ : ∃ z, (fun k => S (i * 7 + 4 + k)) = z := ⟨_, rfl⟩
        have HZ : Hid (∀ k, z k = S (i * 7 + 4 + k)) := Lib.hid (fun k => by rw [← hzz])
        have HKN : Hid (kinS S (i + 1) = fv .add (kinS S i) (fv .quo (sqAdd 0 z 3) (iw (2 * S (i * 7))))) := Lib.hid (by rw [← hzz]; rfl)
        have HKV : Hid (kinW S i = fv .quo (sqAdd 0 z 3) (iw (2 * S (i * 7)))) := Lib.hid (by rw [← hzz]; rfl)
        have HQ : Hid (FOk .quo (sqAdd 0 z 3) (iw (2 * S (i * 7)))) := Lib.hid (by rw [← hzz]; exact HKW.out.1)
        have HSQ : Hid (∀ k, k < 3 → FOk .mul (iw (z k)) (iw (z k)) ∧ FOk .add (sqAdd 0 z k) (fv .mul (iw (z k)) (iw (z k)))) := Lib.hid (by rw [← hzz]; exact HKW.out.2.2.2)
        clear hzz
        obtain ⟨s, hs⟩ : ∃ s, kinS S i = s := ⟨_, rfl⟩
        rw [hs] at HKN HSI ⊢
        clear hs
        go_wp2
        go_loopw [9, 10] (fun vp vk wr => ∃ k : Nat, k ≤ 3 ∧ vk = .int .i64 k ∧ vp = .float .f64 (sqAdd 0 z k) ∧ w = wr) (fun _ vk _ => 3 - (intOf vk).toNat)
        case atStart => exact ⟨0, Nat.zero_le _, rfl, rfl, rfl⟩
        case round =>
          obtain ⟨k, hk, rfl, rfl, rfl⟩ := hrel
          by_cases hk3 : k < 3
          · have cx := HLI.out (i * 7 + 4 + k) (by omega)
            rw [show o + (i * 7 + 4 + k) = o + i * 7 + 4 + k from by omega, ← HZ.out k] at cx
            obtain ⟨f1, f2⟩ := HSQ.out k hk3
            have HNX : Hid (sqAdd 0 z (k + 1) = fv .add (sqAdd 0 z k) (fv .mul (iw (z k)) (iw (z k)))) := Lib.hid rfl
            have r1 := run_fv f1
            have r2 := run_fv f2
            obtain ⟨x, hx⟩ : ∃ x, z k = x := ⟨_, rfl⟩
            rw [hx] at cx r1 r2 HNX
            obtain ⟨D, e0⟩ : ∃ D, floatOfInt FloatKind.f64 x = D := ⟨_, rfl⟩
            have e1 : iw x = D := e0
            rw [e1] at r1 r2 HNX
            obtain ⟨Q, hQ⟩ : ∃ Q, fv .mul D D = Q := ⟨_, rfl⟩
            rw [hQ] at r1 r2 HNX
            obtain ⟨L, hL⟩ : ∃ L, sqAdd 0 z k = L := ⟨_, rfl⟩
            rw [hL] at r2 HNX ⊢
            obtain ⟨N, hN⟩ : ∃ N, fv .add L Q = N := ⟨_, rfl⟩
            rw [hN] at r2 HNX
            clear hx e1 hQ hL hN f1 f2
            go_wp2
            go_roundw
            case rel => exact ⟨k + 1, by omega, by go_num, by rw [HNX.out], trivial⟩
            case measure => first | (simp [intOf]; done) | (simp [intOf]; omega)
          · have hk4 : k = 3 := by omega
            subst hk4
            have cm := HLI.out (i * 7) (by omega)
            have r1 := run_fv HQ.out
            have r2 := run_fv (show FOk .add s (fv .quo (sqAdd 0 z 3) (iw (2 * S (i * 7)))) from by rw [← HKV.out]; exact (HSI.out.add HKW.out.2.1 HKW.out.2.2.1).1)
            have hm1 := HMI.out.1
            have hm2 := HMI.out.2
            have HNX := Lib.hid HKN.out
            obtain ⟨m, hm⟩ : ∃ m, S (i * 7) = m := ⟨_, rfl⟩
            rw [hm] at cm r1 r2 hm1 hm2 HNX
            have w1 : IntKind.i64.wrap (2 * m) = 2 * m := IntWalk.i64_in _ (by omega)
            have w2 : wrap64 (2 * m) = 2 * m := IntWalk.wrap64_in _ (by omega)
            obtain ⟨D, e0⟩ : ∃ D, floatOfInt FloatKind.f64 (2 * m) = D := ⟨_, rfl⟩
            have e1 : iw (2 * m) = D := e0
            rw [e1] at r1 r2 HNX
            obtain ⟨L, hL⟩ : ∃ L, sqAdd 0 z 3 = L := ⟨_, rfl⟩
            rw [hL] at r1 r2 HNX ⊢
            obtain ⟨Q, hQ⟩ : ∃ Q, fv .quo L D = Q := ⟨_, rfl⟩
            rw [hQ] at r1 r2 HNX
            obtain ⟨N, hN⟩ : ∃ N, fv .add s Q = N := ⟨_, rfl⟩
            rw [hN] at r2 HNX
            clear hm e1 hL hQ hN hm1 hm2
            go_wp2
            go_roundw
            case rel => exact ⟨i + 1, by omega, by go_num, by rw [HNX.out], trivial⟩
            case measure => first | (simp [intOf]; done) | (simp [intOf]; omega)
      · have hin2 : n = i := by omega
        subst hin2
        clear hi hin
        obtain ⟨s0, hs0⟩ : ∃ s, kinS S n = s := ⟨_, rfl⟩
        rw [hs0] at HPS HEW ⊢
        clear hs0
        go_wp2
        go_loopw [7, 12] (fun vs vi wr => ∃ i : Nat, i ≤ n ∧ vi = .int .i64 i ∧ vs = .float .f64 (potI gw n S s0 i) ∧ Below w.heap.size w wr) (fun _ vi _ => n - (intOf vi).toNat)
        case atStart => exact ⟨0, Nat.zero_le _, rfl, rfl, Below.refl _ _⟩
        case round =>
          obtain ⟨i, hi, rfl, rfl, hb⟩ := hrel
          have HB := Lib.hid hb
          clear hb
          by_cases hin : i < n
          · obtain ⟨g, o, rfl, hl⟩ := HV.out.cell hin
            have HLI := Lib.hid hl
            have hgl : g < w.heap.size := hl.lt (by omega)
            clear hl
            have HPN : Hid (potI gw n S s0 (i + 1) = potJ gw S i (potI gw n S s0 i) (n - (i + 1))) := Lib.hid rfl
            have HSI := Lib.hid (HPS.out i hi)
            have HOI := Lib.hid (HOK.out i hin)
            obtain ⟨s, hs⟩ : ∃ s, potI gw n S s0 i = s := ⟨_, rfl⟩
            rw [hs] at HPN HSI ⊢
            clear hs
            have HPJ : Hid (∀ t, i + 1 + t ≤ n → Sml (potJ gw S i s t)) := Lib.hid (fun t ht => potJ_sml HG.out.1 HG.out.2.1 HG.out.2.2 HOK.out HSI.out hin t ht)
            go_wp2
            go_loopw [7, 13] (fun vs vj wr => ∃ t : Nat, i + 1 + t ≤ n ∧ vj = .int .i64 ((i + 1 + t : Nat) : Int) ∧ vs = .float .f64 (potJ gw S i s t) ∧ Below w.heap.size w wr) (fun _ vj _ => n - (intOf vj).toNat)
            case atStart => exact ⟨0, by omega, by go_num, rfl, HB.out⟩
            case round =>
              obtain ⟨t, ht, rfl, rfl, hb⟩ := hrel
              have HB2 := Lib.hid hb
              clear hb
              have HPT := Lib.hid (HPJ.out t ht)
              have HTN : Hid (potJ gw S i s (t + 1) = fv .sub (potJ gw S i s t) (potW gw S i (i + 1 + t))) := Lib.hid rfl
              obtain ⟨j, hj⟩ : ∃ j, i + 1 + t = j := ⟨_, rfl⟩
              rw [hj] at HTN ⊢
              have HJ := Lib.hid hj
              have hij : i < j := by omega
              by_cases hjn : j < n
              · have HPW := Lib.hid (pot_word HG.out.1 HG.out.2.1 HG.out.2.2 HOI.out (HOK.out j hjn))
                have HOJ := Lib.hid (HOK.out j hjn)
                obtain ⟨z, hzz⟩ : ∃ z, (fun k => S (j * 7 + 1 + k) - S (i * 7 + 1 + k)) = z := ⟨_, rfl⟩
                have HZ : Hid (∀ k, z k = S (j * 7 + 1 + k) - S (i * 7 + 1 + k)) := Lib.hid (fun k => by rw [← hzz])
                have HWV : Hid (potW gw S i j = fv .quo (fv .mul gw (iw (S (i * 7) * S (j * 7)))) (sqW (sqAdd softW z 3))) := Lib.hid (by rw [← hzz]; rfl)
                have HR : Hid (FOk .mul gw (iw (S (i * 7) * S (j * 7))) ∧ double.sqrt (sqAdd softW z 3) = some (sqW (sqAdd softW z 3)) ∧ FOk .quo (fv .mul gw (iw (S (i * 7) * S (j * 7)))) (sqW (sqAdd softW z 3))) := Lib.hid (by rw [← hzz]; exact ⟨HPW.out.1, HPW.out.2.1, HPW.out.2.2.1⟩)
                have HSQ : Hid (∀ k, k < 3 → FOk .mul (iw (z k)) (iw (z k)) ∧ FOk .add (sqAdd softW z k) (fv .mul (iw (z k)) (iw (z k)))) := Lib.hid (by rw [← hzz]; exact HPW.out.2.2.2.2.2)
                have HSB : Hid (FOk .sub (potJ gw S i s t) (potW gw S i j)) := Lib.hid (HPT.out.sub HPW.out.2.2.2.1 HPW.out.2.2.2.2.1).1
                rw [HWV.out] at HTN HSB
                clear hzz
                obtain ⟨q, hq⟩ : ∃ q, potJ gw S i s t = q := ⟨_, rfl⟩
                rw [hq] at HTN HSB ⊢
                clear hq hj
                go_wp2
                go_loopw [14, 15] (fun vp vk wr => ∃ k : Nat, k ≤ 3 ∧ vk = .int .i64 k ∧ vp = .float .f64 (sqAdd softW z k) ∧ Below w.heap.size w wr) (fun _ vk _ => 3 - (intOf vk).toNat)
                case atStart => exact ⟨0, Nat.zero_le _, rfl, rfl, HB2.out⟩
                case round =>
                  obtain ⟨k, hk, rfl, rfl, hb⟩ := hrel
                  have HB3 := Lib.hid hb
                  clear hb
                  by_cases hk3 : k < 3
                  · have cx := HLI.out (i * 7 + 1 + k) (by omega)
                    rw [← HB3.out.cell (p := ⟨g, o + (i * 7 + 1 + k), none⟩) hgl, show o + (i * 7 + 1 + k) = o + i * 7 + 1 + k from by omega] at cx
                    have cy := HLI.out (j * 7 + 1 + k) (by omega)
                    rw [← HB3.out.cell (p := ⟨g, o + (j * 7 + 1 + k), none⟩) hgl, show o + (j * 7 + 1 + k) = o + j * 7 + 1 + k from by omega] at cy
                    obtain ⟨f1, f2⟩ := HSQ.out k hk3
                    have HNX : Hid (sqAdd softW z (k + 1) = fv .add (sqAdd softW z k) (fv .mul (iw (z k)) (iw (z k)))) := Lib.hid rfl
                    have r1 := run_fv f1
                    have r2 := run_fv f2
                    have hbx := (HOI.out.2 k hk3).1
                    have hby := (HOJ.out.2 k hk3).1
                    rw [HZ.out k] at r1 r2 HNX
                    obtain ⟨x, hx⟩ : ∃ x, S (i * 7 + 1 + k) = x := ⟨_, rfl⟩
                    obtain ⟨y, hy⟩ : ∃ y, S (j * 7 + 1 + k) = y := ⟨_, rfl⟩
                    rw [hx] at cx hbx
                    rw [hy] at cy hby
                    rw [hx, hy] at r1 r2 HNX
                    unfold okX at hbx hby
                    have w1 : IntKind.i64.wrap (y - x) = y - x := IntWalk.i64_in _ (by omega)
                    have w2 : wrap64 (y - x) = y - x := IntWalk.wrap64_in _ (by omega)
                    obtain ⟨D, e0⟩ : ∃ D, floatOfInt FloatKind.f64 (y - x) = D := ⟨_, rfl⟩
                    have e1 : iw (y - x) = D := e0
                    rw [e1] at r1 r2 HNX
                    obtain ⟨Q, hQ⟩ : ∃ Q, fv .mul D D = Q := ⟨_, rfl⟩
                    rw [hQ] at r1 r2 HNX
                    obtain ⟨L, hL⟩ : ∃ L, sqAdd softW z k = L := ⟨_, rfl⟩
                    rw [hL] at r2 HNX ⊢
                    obtain ⟨N, hN⟩ : ∃ N, fv .add L Q = N := ⟨_, rfl⟩
                    rw [hN] at r2 HNX
                    clear hx hy e1 hQ hL hN f1 f2 hbx hby
                    have hki : (k : Int) < 3 := by omega
                    go_wp2
                    go_quiet (fail)
                    go_wp2
                    go_roundw
                    case rel => exact ⟨k + 1, by omega, by go_num, by rw [HNX.out], below_drw HB3.out _⟩
                    case measure => first | (simp [intOf]; done) | (simp [intOf]; omega)
                  · have hk4 : k = 3 := by omega
                    subst hk4
                    have cx := HLI.out (i * 7) (by omega)
                    rw [← HB3.out.cell (p := ⟨g, o + (i * 7), none⟩) hgl] at cx
                    have cy := HLI.out (j * 7) (by omega)
                    rw [← HB3.out.cell (p := ⟨g, o + (j * 7), none⟩) hgl] at cy
                    have r1 := run_fv HR.out.1
                    have r2 := run_fv HR.out.2.2
                    have r3 := run_fv HSB.out
                    have hm1 := HOI.out.1
                    have hm2 := HOJ.out.1
                    have hsq := HR.out.2.1
                    have HNX := Lib.hid HTN.out
                    obtain ⟨x, hx⟩ : ∃ x, S (i * 7) = x := ⟨_, rfl⟩
                    obtain ⟨y, hy⟩ : ∃ y, S (j * 7) = y := ⟨_, rfl⟩
                    rw [hx] at cx hm1
                    rw [hy] at cy hm2
                    rw [hx, hy] at r1 r2 r3 HNX
                    have hxy : 0 ≤ x * y ∧ x * y ≤ 1099511627776 := ⟨Int.mul_nonneg (by omega) (by omega), Int.le_trans (Int.mul_le_mul hm1.2 hm2.2 (by omega) (by omega)) (by decide)⟩
                    obtain ⟨mm, hmm⟩ : ∃ mm, x * y = mm := ⟨_, rfl⟩
                    rw [hmm] at r1 r2 r3 HNX hxy
                    have w1 : IntKind.i64.wrap (x * y) = mm := by rw [hmm]; exact IntWalk.i64_in _ (by omega)
                    have w2 : wrap64 (x * y) = mm := by rw [hmm]; exact IntWalk.wrap64_in _ (by omega)
                    obtain ⟨D, e0⟩ : ∃ D, floatOfInt FloatKind.f64 mm = D := ⟨_, rfl⟩
                    have e1 : iw mm = D := e0
                    rw [e1] at r1 r2 r3 HNX
                    obtain ⟨L, hL⟩ : ∃ L, sqAdd softW z 3 = L := ⟨_, rfl⟩
                    rw [hL] at r2 r3 HNX hsq ⊢
                    obtain ⟨R, hR⟩ : ∃ R, sqW L = R := ⟨_, rfl⟩
                    rw [hR] at r2 r3 HNX hsq
                    obtain ⟨G, hG⟩ : ∃ G, fv .mul gw D = G := ⟨_, rfl⟩
                    rw [hG] at r1 r2 r3 HNX
                    obtain ⟨Q, hQ⟩ : ∃ Q, fv .quo G R = Q := ⟨_, rfl⟩
                    rw [hQ] at r2 r3 HNX
                    obtain ⟨N, hN⟩ : ∃ N, fv .sub q Q = N := ⟨_, rfl⟩
                    rw [hN] at r3 HNX
                    have HSR := Lib.hid hsq
                    clear hx hy e1 hL hR hG hQ hN hm1 hm2 hsq hmm hxy
                    go_wp2
                    go_quiet ((go_at_call 24; refine (sqrt_any HSR.out _).mono ?_; rintro e w'' ⟨rfl, rfl⟩; exact ⟨rfl, _, rfl⟩))
                    go_wp2
                    go_roundw
                    case rel => exact ⟨t + 1, by have := HJ.out; omega, by have := HJ.out; go_num, by rw [HNX.out], below_drw HB3.out _⟩
                    case measure => first | (simp [intOf]; done) | (simp [intOf]; omega)
              · have hjn2 : n = j := by omega
                have HTT : Hid (n - (i + 1) = t) := Lib.hid (by omega)
                have HNX : Hid (potI gw n S s0 (i + 1) = potJ gw S i s t) := Lib.hid (by rw [HPN.out, HTT.out])
                obtain ⟨q, hq⟩ : ∃ q, potJ gw S i s t = q := ⟨_, rfl⟩
                rw [hq] at HNX ⊢
                clear hq hj
                subst hjn2
                go_wp2
                go_roundw
                case rel => exact ⟨i + 1, by omega, by go_num, by rw [HNX.out], HB2.out⟩
                case measure => first | (simp [intOf]; done) | (simp [intOf]; omega)
          · have hin2 : n = i := by omega
            subst hin2
            have r1 := run_fv ((HPS.out n (Nat.le_refl _)).add fin_zero (by rw [V_zero]; exact Nat.zero_le _)).1
            have HNX := Lib.hid HEW.out
            obtain ⟨q, hq⟩ : ∃ q, potI gw n S s0 n = q := ⟨_, rfl⟩
            rw [hq] at r1 HNX ⊢
            obtain ⟨N, hN⟩ : ∃ N, fv .add q 0 = N := ⟨_, rfl⟩
            rw [hN] at r1 HNX
            clear hq hN
            go_wp2
            go_ret2
            exact ⟨by rw [HNX.out]; rfl, HB.out⟩
  · have HE : enE gw n S = chk n S := by unfold enE; rw [if_neg hz]
    have HF : enF gw n S = 0 := by unfold enF; rw [if_neg hz]
    rw [HE, HF]
    obtain ⟨C, hC⟩ : ∃ C, chk n S = C := ⟨_, rfl⟩
    rw [hC] at hck hz ⊢
    have HC := Lib.hid hck
    have hne : (C != 0) = true := by rw [bne_iff_ne]; exact hz
    clear hck hC hz HE HF
    go_enter Try.func15, Try.ntmps15
    go_wp2_with (first | (go_at_call 19; refine HC.out.mono ?_; rintro e w' ⟨rfl, rfl⟩))
    go_ret2
    exact ⟨rfl, Below.refl _ _⟩
end Go.Proofs.Ytjapohjfheielaa
