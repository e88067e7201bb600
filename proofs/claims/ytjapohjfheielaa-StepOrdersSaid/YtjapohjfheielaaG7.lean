/- Walks: StepOrders. Conditions: the masses lie in memory. -/
import Derived.Test.YtjapohjfheielaaC8
import Derived.Test.YtjapohjfheielaaD4
namespace Go.Proofs.Ytjapohjfheielaa
open Go.RowKit
open Ieee (FinW V dR big double wordOf deepD)
attribute [local irreducible] Ieee.V Ieee.Format.rnd fv Ieee.big Ieee.deepD flW sqW hU rN pk kickAt kickS driftS runR runO stepO chk

theorem wrap64u (n : Nat) (h : n < 18446744073709551616) : IntKind.u64.wrap (n : Int) = (n : Int) := IntWalk.u64_in _ (by omega)
/-- the list turned -/
def turnS (n k : Nat) (S : Nat → Int) : Nat → Int := fun e => S ((n - 1 - e / 7 + k) % n * 7 + e % 7)
theorem turn_perm (n k : Nat) (S : Nat → Int) : Perm (fun i => (n - 1 - i + k) % n) n S (turnS n k S) := fun i _ t ht => by
  unfold turnS
  rw [show (i * 7 + t) / 7 = i from by omega, show (i * 7 + t) % 7 = t from by omega]
theorem vals_snoc (i : Nat) (S T : Nat → Int) (h : ∀ t, t < 7 → T t = S (i * 7 + t)) : vals i S ++ vals 1 T = vals (i + 1) S := by
  apply List.ext_getElem?
  intro j
  by_cases h1 : j < i * 7
  · rw [List.getElem?_append_left (by rw [vals_length]; exact h1), vals_get h1, vals_get (by omega)]
  · rw [List.getElem?_append_right (by rw [vals_length]; omega), vals_length]
    by_cases h2 : j < (i + 1) * 7
    · rw [vals_get (by omega), vals_get h2, h _ (by omega), show i * 7 + (j - i * 7) = j from by omega]
    · rw [List.getElem?_eq_none (by rw [vals_length]; omega), List.getElem?_eq_none (by rw [vals_length]; omega)]
/-- one mass in a new block -/
theorem one_mass (w : World) (T : Nat → Int) : MIn (w.alloc (.cells #[.int .i64 (T 0), .int .i64 (T 1), .int .i64 (T 2), .int .i64 (T 3), .int .i64 (T 4), .int .i64 (T 5), .int .i64 (T 6)] 40)) (.slice (some ⟨w.heap.size, 0, none⟩) 1 1) 1 T := by
  refine Or.inr ⟨_, _, rfl, fun _ => ⟨_, 0, rfl, fun j hj => ?_⟩⟩
  rw [Nat.zero_add, cell_of_row _ _ _ _ _ (0, 0) (heap_alloc_new w _)]
  have : j = 0 ∨ j = 1 ∨ j = 2 ∨ j = 3 ∨ j = 4 ∨ j = 5 ∨ j = 6 := by omega
  rcases this with rfl | rfl | rfl | rfl | rfl | rfl | rfl <;> rfl

set_option maxHeartbeats 4000000 in
theorem orders_walk (v : Value) (n gw : Nat) (N : Int) (at0 : Nat) (S : Nat → Int) (w : World) (hv : MIn w v n S) (hn : n ≤ 4398046511104) (hsz : n * 56 ≤ 140737488351232) (hgw : gw < 18446744073709551616) (hN : -9223372036854775808 ≤ N ∧ N ≤ 9223372036854775807) (hat : at0 < 18446744073709551616) :
    Calls Try.prog 7 #[v, .float .f64 gw, .int .i64 N, .int .u64 at0] w fun e w' => e = .returned (.bool true) ∧ Below w.heap.size w w' := by
  have HS := Lib.hid hv
  have HGW := Lib.hid hgw
  obtain ⟨A, ca, rfl⟩ := hv.form
  clear hv hgw
  have HF := Lib.hid (fewN_le N)
  have hfa := fun u => few_any N u hN
  have HN := Lib.hid hfa
  have HAT := Lib.hid hat
  obtain ⟨M, hM⟩ : ∃ M, fewN N = M := ⟨_, rfl⟩
  rw [hM] at HF HN
  have hf1 := HF.out.1
  have hf2 := HF.out.2
  clear hN hfa hM HF hat
  by_cases h0 : n = 0
  · have hz : ((n : Int) == 0) = true := by rw [h0]; rfl
    clear h0
    go_enter Try.func7, Try.ntmps7
    go_wp2_with fail
    refine (awake_any _).mono ?_
    rintro e w1 ⟨rfl, hb⟩
    have B1 := Lib.hid hb
    have S1 := Lib.hid (HS.out.below hb)
    clear hb
    go_wp2
    go_ret
    exact ⟨rfl, B1.out⟩
  · have hz : ((n : Int) == 0) = false := by rw [beq_eq_false_iff_ne]; omega
    have hlt : at0 % n < n := Nat.mod_lt _ (by omega)
    have hrem : ((at0 : Int)) % (n : Int) = ((at0 % n : Nat) : Int) := by omega
    obtain ⟨k, hk⟩ : ∃ k, at0 % n = k := ⟨_, rfl⟩
    rw [hk] at hlt hrem
    have hwr := wrap64u n (by omega)
    have H0 : Hid (0 < n) := Lib.hid (by omega)
    clear hk h0
    go_enter Try.func7, Try.ntmps7
    go_wp2_with fail
    refine (awake_any _).mono ?_
    rintro e w1 ⟨rfl, hb⟩
    have B1 := Lib.hid hb
    have S1 := Lib.hid (HS.out.below hb)
    clear hb
    go_wp2_with fail
    clear hrem hwr
    go_loopw [9, 11] (fun v9 vi wr => ∃ i : Nat, i ≤ n ∧ vi = .int .i64 i ∧ wr.ownsRow w1.heap.size 40 7 v9 i (vals i (turnS n k S)) ∧ Below w.heap.size w wr ∧ w1.heap.size ≤ wr.heap.size) (fun _ vi _ => n - (intOf vi).toNat)
    case atStart => exact ⟨0, Nat.zero_le _, rfl, World.ownsRow_nil _ _ _ _, B1.out, Nat.le_refl _⟩
    case round =>
      obtain ⟨i, hi, rfl, ho, hb, hsz1⟩ := hrel
      have HO := Lib.hid ho
      have HB := Lib.hid hb
      have HSR := Lib.hid (HS.out.below hb)
      have HZ := Lib.hid hsz1
      clear ho hb hsz1
      by_cases hin : i < n
      · obtain ⟨s, hs⟩ : ∃ s, (n - 1 - i + k) % n = s := ⟨_, rfl⟩
        have hsn : s < n := by rw [← hs]; exact Nat.mod_lt _ (by omega)
        have hsi : ((n : Int) - 1 - (i : Int) + (k : Int)) % (n : Int) = (s : Int) := by
          rw [← hs, show ((n : Int) - 1 - (i : Int) + (k : Int)) = ((n - 1 - i + k : Nat) : Int) from by omega]; rfl
        obtain ⟨g, o, rfl, hl⟩ := HSR.out.cell hsn
        obtain ⟨a0, a1, a2, a3, a4, a5, a6⟩ := hl.seven hsn
        have HT : Hid (∀ t, t < 7 → S (s * 7 + t) = turnS n k S (i * 7 + t)) := Lib.hid (fun t ht => by
          rw [turn_perm n k S i hin t ht]
          show _ = S ((n - 1 - i + k) % n * 7 + t)
          rw [hs])
        have hcast : ∀ q : Nat → Int, q = q := fun _ => rfl
        have HM1 := fun u : World => Lib.hid (one_mass u (fun t => S (s * 7 + t)))
        clear hl hs
        have HS0 : Hid (i * 56 + 56 ≤ 140737488355328) := Lib.hid (by omega)
        have ZA : Hid ((i + 1) * 56 ≤ 140737488355328) := Lib.hid (by have := HS0.out; omega)
        have HMI := Lib.hid (fun u : World => one_mass u (fun t => S (s * 7 + t)))
        have ZB : Hid (∀ ob : Obj, w1.heap.size ≤ (wr.alloc ob).heap.size) := Lib.hid (fun ob => by have := HZ.out; simp; omega)
        clear HM1 hcast
        go_wp2_with (first | (at_builtin; refine wpList_append_srcM rfl _ _ rfl w1.heap.size i _ _ rfl (HO.out.alloc _) _ 1 (fun t => S (s * 7 + t)) rfl (HMI.out wr) ZA.out (ZB.out _) ?_))
        intro va wn hown hgr hblk
        have hown2 := hown
        rw [vals_snoc i (turnS n k S) (fun t => S (s * 7 + t)) HT.out] at hown2
        have HON := Lib.hid hown2
        have HBN := Lib.hid ((HB.out.alloc HB.out.size _).grown hgr (Nat.le_trans HB.out.size (by simp)) (by
          intro q hq
          have h1 := ((HO.out.alloc (.cells #[] 40)).lt q hq).1
          exact Nat.le_trans B1.out.size h1))
        have HZN : Hid (w1.heap.size ≤ wn.heap.size) := Lib.hid (Nat.le_trans (ZB.out _) hgr.size)
        clear hown hown2 hgr hblk
        go_wp2
        go_roundw
        case rel => exact ⟨i + 1, by omega, by go_num, HON.out, HBN.out, HZN.out⟩
        case measure => first | (simp [intOf]; done) | (simp [intOf]; omega)
      · have hin2 : i = n := by omega
        subst hin2
        have hrow := own_of_row HO.out (by
          rcases HO.out.2 with ⟨_, hq⟩ | ⟨g, cap, cur, rfl, _⟩
          · exact absurd hq (by have := H0.out; omega)
          · exact ⟨_, rfl⟩)
        obtain ⟨gt, ct, rfl, _, hot, _, _⟩ := hrow
        have HOT := Lib.hid hot
        obtain ⟨wx, hwx⟩ : ∃ wx, wx = wr := ⟨_, rfl⟩
        have HMT := Lib.hid (hot.min (c2 := ct))
        clear hot hwx wx
        have Ea := Lib.hid (own_empty wr)
        have Ca := Lib.hid (HSR.out.below ((Below.refl _ _).alloc (Nat.le_refl _) (.cells #[] 40)))
        have ZAa : Hid ((0 + i) * 56 ≤ 140737488355328) := Lib.hid (by omega)
        have ZBa : Hid (wr.heap.size ≤ (wr.alloc (.cells #[] 40)).heap.size) := Lib.hid (by simp)
        go_wp2_with (first | (at_builtin; refine wpList_append_srcM rfl _ _ rfl wr.heap.size 0 _ [] rfl Ea.out _ i S rfl Ca.out ZAa.out ZBa.out ?_))
        intro va wa hown hgr hblk
        have hrow := own_of_row (S := S) (show va.ownsBy wa wr i S from by simpa [Value.ownsBy] using hown) (by rcases hblk with h | h <;> exact ⟨_, h⟩)
        obtain ⟨ga, cza, rfl, hg, ho, hnc, hcm⟩ := hrow
        have Oa := Lib.hid ho
        have Ba := Lib.hid (HB.out.trans (Below.mono (((Below.refl wr.heap.size wr).alloc (Nat.le_refl _) (.cells #[] 40)).grown hgr (by simp) (by intro k hk; simp [Value.ownBlock] at hk; omega)) HB.out.size))
        have Ka := Lib.hid (show Below wr.heap.size wr wa from ((Below.refl wr.heap.size wr).alloc (Nat.le_refl _) (.cells #[] 40)).grown hgr (by simp) (by intro k hk; simp [Value.ownBlock] at hk; omega))
        clear hown hgr hblk hg ho hnc hcm Ea Ca ZAa ZBa
        have HMT2 := Lib.hid (HMT.out.below Ka.out)
        have HSA := Lib.hid (HSR.out.below Ka.out)
        go_wp2_with fail
        refine (HN.out _).mono ?_
        rintro e w' ⟨rfl, rfl⟩
        have hrun := runP_any (.slice (some ⟨ga, 0, none⟩) i cza) i gw M S wa Oa.out.min hn HGW.out (by omega)
        go_wp2_with fail
        refine hrun.mono ?_
        rintro e wb ⟨hb, h⟩
        have Bb := Lib.hid (Ba.out.trans (hb.mono Ba.out.size))
        have HMT3 := Lib.hid (HMT2.out.below hb)
        have HPR := Lib.hid (perm_R (gw := gw) (N := M) (inv_turn hlt) (turn_perm i k S))
        clear hb hrun
        have hrun2 := runP_any (.slice (some ⟨gt, 0, none⟩) i ct) i gw M (turnS i k S) wb HMT3.out hn HGW.out (by omega)
        have HR2 := Lib.hid hrun2
        clear hrun2
        rcases h with ⟨h0, gb, cb, rfl, _, ho, _, _⟩ | ⟨h0, rfl⟩
        · have HA0 := Lib.hid h0
          have HMA := Lib.hid (ho.min (c2 := cb))
          clear h0 ho
          go_wp2_with fail
          refine (HN.out _).mono ?_
          rintro e w' ⟨rfl, rfl⟩
          go_wp2_with fail
          refine HR2.out.mono ?_
          rintro e wc ⟨hb, h⟩
          have Bc := Lib.hid (Bb.out.trans (hb.mono Bb.out.size))
          have HMA2 := Lib.hid (HMA.out.below hb)
          clear hb
          rcases h with ⟨h1, gc, cc, rfl, _, ho, _, _⟩ | ⟨h1, rfl⟩
          · have HMC := Lib.hid (ho.min (c2 := cc))
            clear h1 ho
            go_wp2_with fail
            go_loopw [16] (fun vi wr => ∃ j : Nat, j ≤ i ∧ vi = .int .i64 j ∧ Drawn wc wr) (fun vi _ => i - (intOf vi).toNat)
            case atStart => exact ⟨0, Nat.zero_le _, rfl, Drawn.refl _⟩
            case round =>
              obtain ⟨j, hj, rfl, ⟨md, rfl⟩⟩ := hrel
              by_cases hjn : j < i
              · obtain ⟨s, hs⟩ : ∃ s, (i - 1 - j + k) % i = s := ⟨_, rfl⟩
                have hsn : s < i := by rw [← hs]; exact Nat.mod_lt _ (by omega)
                have hsi : ((i : Int) - 1 - (j : Int) + (k : Int)) % (i : Int) = (s : Int) := by
                  rw [← hs, show ((i : Int) - 1 - (j : Int) + (k : Int)) = ((i - 1 - j + k : Nat) : Int) from by omega]; rfl
                obtain ⟨g1, o1, e1, l1⟩ := HMA2.out.cell hsn
                cases e1
                obtain ⟨g2, o2, e2, l2⟩ := HMC.out.cell hjn
                cases e2
                obtain ⟨a0, a1, a2, a3, a4, a5, a6⟩ := l1.seven hsn
                obtain ⟨b0, b1, b2, b3, b4, b5, b6⟩ := l2.seven hjn
                have hp := fun t ht => HPR.out.2 HA0.out j hjn t ht
                simp only [hs] at hp
                rw [show (runR gw i (turnS i k S) M).2 (j * 7) = (runR gw i S M).2 (s * 7) from hp 0 (by omega)] at b0
                rw [hp 1 (by omega)] at b1
                rw [hp 2 (by omega)] at b2
                rw [hp 3 (by omega)] at b3
                rw [hp 4 (by omega)] at b4
                rw [hp 5 (by omega)] at b5
                rw [hp 6 (by omega)] at b6
                clear l1 l2 hp hs
                rw [Nat.zero_add] at a0 a1 a2 a3 a4 a5 a6 b0 b1 b2 b3 b4 b5 b6
                generalize (runR gw i S M).2 (s * 7) = m at *
                generalize (runR gw i S M).2 (s * 7 + 1) = x0 at *
                generalize (runR gw i S M).2 (s * 7 + 2) = x1 at *
                generalize (runR gw i S M).2 (s * 7 + 3) = x2 at *
                generalize (runR gw i S M).2 (s * 7 + 4) = p0 at *
                generalize (runR gw i S M).2 (s * 7 + 5) = p1 at *
                generalize (runR gw i S M).2 (s * 7 + 6) = p2 at *
                have f1 := fun u => run_eq3_same x0 x1 x2 u
                have f2 := fun u => run_eq3_same p0 p1 p2 u
                have hw1 : IntKind.i64.wrap ((i : Int) - 1) = (i : Int) - 1 := IntWalk.i64_in _ (by omega)
                have hw2 : IntKind.i64.wrap ((i : Int) - 1 - (j : Int)) = (i : Int) - 1 - (j : Int) := IntWalk.i64_in _ (by omega)
                have hw3 : IntKind.i64.wrap ((i : Int) - 1 - (j : Int) + (k : Int)) = (i : Int) - 1 - (j : Int) + (k : Int) := IntWalk.i64_in _ (by omega)
                have hw4 : 0 ≤ (i : Int) - 1 - (j : Int) + (k : Int) := by omega
                have hw5 : ((i : Int) - 1 - (j : Int) + (k : Int)).tmod (i : Int) = (s : Int) := by rw [Int.tmod_eq_emod_of_nonneg hw4, hsi]
                go_wp2_with fail
                go_quiet (fail)
                go_wp2
                go_roundw
                case rel => exact ⟨j + 1, by omega, by go_num, ⟨_, rfl⟩⟩
                case measure => first | (simp [intOf]; done) | (simp [intOf]; omega)
              · have hjn2 : j = i := by omega
                subst hjn2
                go_wp2
                go_ret
                exact ⟨rfl, below_drw Bc.out _⟩
          · exact absurd (by rw [HPR.out.1]; exact HA0.out) h1
        · have HA0 := Lib.hid h0
          obtain ⟨E, hE⟩ : ∃ E, (runR gw i S M).1 = E := ⟨_, rfl⟩
          rw [hE]
          have HE := Lib.hid hE
          clear h0 hE
          go_wp2_with fail
          refine (HN.out _).mono ?_
          rintro e w' ⟨rfl, rfl⟩
          go_wp2_with fail
          refine HR2.out.mono ?_
          rintro e wc ⟨hb, h⟩
          have Bc := Lib.hid (Bb.out.trans (hb.mono Bb.out.size))
          clear hb
          rcases h with ⟨h1, gc, cc, rfl, _, ho, _, _⟩ | ⟨h1, rfl⟩
          · exact absurd (by rw [← HPR.out.1]; exact h1) HA0.out
          · have hE2 : (runR gw i (turnS i k S) M).1 = E := by rw [HPR.out.1]; exact HE.out
            rw [hE2]
            clear h1 hE2
            go_wp2
            refine wp_loop_rounds 1 ?_
            rw [rounds_succ]
            go_wp2
            go_ret
            exact ⟨rfl, Bc.out⟩
end Go.Proofs.Ytjapohjfheielaa
