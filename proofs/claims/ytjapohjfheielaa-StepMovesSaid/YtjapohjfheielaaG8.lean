/- Walks: StepMoves. Conditions: the masses lie in memory. -/
import Derived.Test.YtjapohjfheielaaC8
import Derived.Test.YtjapohjfheielaaC9
import Derived.Test.YtjapohjfheielaaD5
import Derived.Test.YtjapohjfheielaaG4
namespace Go.Proofs.Ytjapohjfheielaa
open Go.RowKit
open Ieee (FinW V dR big double wordOf deepD)
attribute [local irreducible] Ieee.V Ieee.Format.rnd fv Ieee.big Ieee.deepD flW sqW hU rN pk kickAt kickS driftS runR runO stepO chk

theorem Row3.below {w w' : World} {g : Nat} {F : Nat → Int} (h : Row3 w g F) (hb : Below w.heap.size w w') : Row3 w' g F := by
  have hl : g < w.heap.size := by
    have h' : w.heap[g]? = some (.cells #[.int .i64 (F 0), .int .i64 (F 1), .int .i64 (F 2)] 26 (0, 0)) := h
    exact (Array.getElem?_eq_some_iff.1 h').1
  unfold Row3; rw [hb.block g hl]; exact h
theorem Row3.lt {w : World} {g : Nat} {F : Nat → Int} (h : Row3 w g F) : g < w.heap.size := by
  have h' : w.heap[g]? = some (.cells #[.int .i64 (F 0), .int .i64 (F 1), .int .i64 (F 2)] 26 (0, 0)) := h
  exact (Array.getElem?_eq_some_iff.1 h').1
theorem run_res {gw n : Nat} {S : Nat → Int} {N : Int} {w w' : World} {e : Ending} (h : RunPost gw n S N w e w') :
    ∃ A len c, e = .returned (.tuple #[.slice A len c, .int .i64 (runR gw n S N).1]) ∧ Below w.heap.size w w' ∧ ((runR gw n S N).1 = 0 → len = n ∧ MIn w' (.slice A n c) n (runR gw n S N).2) := by
  obtain ⟨hb, h | h⟩ := h
  · obtain ⟨h0, g, cap, rfl, _, ho, _, _⟩ := h
    exact ⟨_, _, _, by rw [h0], hb, fun _ => ⟨rfl, ho.min⟩⟩
  · obtain ⟨h0, rfl⟩ := h
    exact ⟨_, _, _, rfl, hb, fun e => absurd e h0⟩
theorem two_mass (wo : World) (A : Nat → Int) : Own (((wo.alloc (.cells #[.int .i64 (A 0), .int .i64 (A 1), .int .i64 (A 2), .int .i64 (A 3), .int .i64 (A 4), .int .i64 (A 5), .int .i64 (A 6)] 40)).alloc (.cells #[.int .i64 (A 0), .int .i64 (A 1), .int .i64 (A 2), .int .i64 (A 3), .int .i64 (A 4), .int .i64 (A 5), .int .i64 (A 6)] 40)).drew) wo.heap.size 1 1 A ∧
    Own (((wo.alloc (.cells #[.int .i64 (A 0), .int .i64 (A 1), .int .i64 (A 2), .int .i64 (A 3), .int .i64 (A 4), .int .i64 (A 5), .int .i64 (A 6)] 40)).alloc (.cells #[.int .i64 (A 0), .int .i64 (A 1), .int .i64 (A 2), .int .i64 (A 3), .int .i64 (A 4), .int .i64 (A 5), .int .i64 (A 6)] 40)).drew) (wo.heap.size + 1) 1 1 A ∧
    Below wo.heap.size wo (((wo.alloc (.cells #[.int .i64 (A 0), .int .i64 (A 1), .int .i64 (A 2), .int .i64 (A 3), .int .i64 (A 4), .int .i64 (A 5), .int .i64 (A 6)] 40)).alloc (.cells #[.int .i64 (A 0), .int .i64 (A 1), .int .i64 (A 2), .int .i64 (A 3), .int .i64 (A 4), .int .i64 (A 5), .int .i64 (A 6)] 40)).drew) := by
  have hc : ∀ j, j < 1 * 7 → (#[Value.int IntKind.i64 (A 0), .int .i64 (A 1), .int .i64 (A 2), .int .i64 (A 3), .int .i64 (A 4), .int .i64 (A 5), .int .i64 (A 6)] : Array Value)[j]? = some (.int .i64 (A j)) := fun j hj => by
    have : j = 0 ∨ j = 1 ∨ j = 2 ∨ j = 3 ∨ j = 4 ∨ j = 5 ∨ j = 6 := by omega
    rcases this with rfl | rfl | rfl | rfl | rfl | rfl | rfl <;> rfl
  exact ⟨⟨_, heap_alloc2_old wo _ _, hc, rfl⟩, ⟨_, heap_alloc2_new wo _ _, hc, rfl⟩, (((Below.refl _ _).alloc (Nat.le_refl _) _).alloc (by simp) _).drew⟩
/-- one mass, an axis turned about -/
def turA (κ : Nat) (A : Nat → Int) : Nat → Int := upd (upd A (1 + κ) (-A (1 + κ))) (4 + κ) (-A (4 + κ))
theorem turA_cell {κ l j : Nat} {T T3 : Nat → Int} (hκ : κ < 3) (h : Turned κ l T T3) (hj : j < l) {t : Nat} (ht : t < 7) : T3 (j * 7 + t) = turA κ (fun e => T (j * 7 + e)) t := by
  obtain ⟨h0, hc⟩ := h j hj
  unfold turA upd
  rcases Nat.lt_or_ge t 1 with h1 | h1
  · obtain rfl : t = 0 := by omega
    rw [if_neg (by omega), if_neg (by omega)]; exact h0
  · rcases Nat.lt_or_ge t 4 with h4 | h4
    · obtain ⟨c, rfl⟩ : ∃ c, t = 1 + c := ⟨t - 1, by omega⟩
      rw [(hc c (by omega)).1, if_neg (by omega)]
      unfold flip
      by_cases hcκ : c = κ
      · subst hcκ; rw [if_pos rfl, if_pos rfl]
      · rw [if_neg hcκ, if_neg (by omega)]
    · obtain ⟨c, rfl⟩ : ∃ c, t = 4 + c := ⟨t - 4, by omega⟩
      rw [(hc c (by omega)).2]
      unfold flip
      by_cases hcκ : c = κ
      · subst hcκ; rw [if_pos rfl, if_pos rfl]
      · rw [if_neg hcκ, if_neg (by omega), if_neg (by omega)]
theorem movA_cell {l j : Nat} {m T T2 : Nat → Int} (h : Moved m l T T2) (hj : j < l) {t : Nat} (ht : t < 7) : T2 (j * 7 + t) = movS m (fun e => T (j * 7 + e)) t := by
  obtain ⟨h0, hc⟩ := h j hj
  unfold movS
  rcases Nat.lt_or_ge t 1 with h1 | h1
  · obtain rfl : t = 0 := by omega
    rw [if_neg (by omega)]; exact h0
  · rcases Nat.lt_or_ge t 4 with h4 | h4
    · obtain ⟨c, rfl⟩ : ∃ c, t = 1 + c := ⟨t - 1, by omega⟩
      rw [(hc c (by omega)).1, if_pos (by omega), show (1 + c) % 7 - 1 = c from by omega]
    · obtain ⟨c, rfl⟩ : ∃ c, t = 4 + c := ⟨t - 4, by omega⟩
      rw [(hc c (by omega)).2, if_neg (by omega)]
theorem one_start (m A : Nat → Int) (e : Nat) : mix (1 + 0) (movS m A) A e = A e := by
  have := mov_start m A 0 e
  rw [show 0 * 7 + 1 + 0 = 1 + 0 from rfl] at this
  rw [this]; exact mix_ge (by omega)
theorem one_end (m A : Nat → Int) (e : Nat) (he : e < 7) : movS m A e = mix (1 + 3) (movS m A) A e := by
  unfold mix
  by_cases h : e < 1 + 3
  · rw [if_pos h]
  · rw [if_neg h]; unfold movS; rw [if_neg (by omega)]
def bnd (z : Int) : Prop := -2199023255552 ≤ z ∧ z ≤ 2199023255552

set_option maxRecDepth 100000 in
set_option maxHeartbeats 8000000 in
theorem moves_walk (v : Value) (n gw : Nat) (N : Int) (y0 y1 y2 : Int) (at0 : Nat) (S : Nat → Int) (w : World) (hv : MIn w v n S) (hn : n ≤ 4398046511104) (hsz : n * 56 ≤ 140737488351232) (hSb : ∀ e, e < n * 7 → -9223372036854775808 ≤ S e ∧ S e ≤ 9223372036854775807) (hgw : gw < 18446744073709551616) (hN : -9223372036854775808 ≤ N ∧ N ≤ 9223372036854775807) (hat : at0 < 18446744073709551616) :
    Calls Try.prog 8 #[v, .float .f64 gw, .int .i64 N, .agg #[.int .i64 y0, .int .i64 y1, .int .i64 y2], .int .u64 at0] w fun e w' => e = .returned (.bool true) ∧ Below w.heap.size w w' := by
  have HS := Lib.hid hv
  have HGW := Lib.hid hgw
  obtain ⟨A, ca, rfl⟩ := hv.form
  clear hv hgw
  have HF := Lib.hid (fewN_le N)
  have hfa := fun u => few_any N u hN
  have HN := Lib.hid hfa
  have HSB := Lib.hid hSb
  have HCAP := Lib.hid hat
  obtain ⟨M, hM⟩ : ∃ M, fewN N = M := ⟨_, rfl⟩
  rw [hM] at HF HN
  have hf1 := HF.out.1
  have hf2 := HF.out.2
  have hkl : at0 % 3 < 3 := Nat.mod_lt _ (by omega)
  have hrem : ((at0 : Int)) % 3 = ((at0 % 3 : Nat) : Int) := by omega
  obtain ⟨κ, hk⟩ : ∃ κ, at0 % 3 = κ := ⟨_, rfl⟩
  rw [hk] at hkl hrem
  have hkl2 : (κ : Int) < 3 := by omega
  have hkl3 : (0 : Int) ≤ (κ : Int) := by omega
  clear hN hfa hM HF hk hSb hat
  have HBX := Lib.hid ((Below.refl w.heap.size w).alloc (Nat.le_refl _) (.cells #[.int .i64 y0, .int .i64 y1, .int .i64 y2] 26))
  have SX := Lib.hid (HS.out.below HBX.out)
  have HY0 : Hid (Row3 (w.alloc (.cells #[.int .i64 y0, .int .i64 y1, .int .i64 y2] 26)) w.heap.size (three y0 y1 y2)) := Lib.hid (heap_alloc_new w _)
  go_enter Try.func8, Try.ntmps8
  go_wp2_with fail
  refine (awake_any _).mono ?_
  rintro e w1 ⟨rfl, hb⟩
  have B1 := Lib.hid (HBX.out.trans (hb.mono HBX.out.size))
  have S1 := Lib.hid (SX.out.below hb)
  have Y1 := Lib.hid (HY0.out.below hb)
  clear hb
  have Em := Lib.hid (own_empty w1)
  have Cm := Lib.hid (S1.out.below ((Below.refl _ _).alloc (Nat.le_refl _) (.cells #[] 40)))
  have ZAm : Hid ((0 + n) * 56 ≤ 140737488355328) := Lib.hid (by omega)
  have ZBm : Hid (w1.heap.size ≤ (w1.alloc (.cells #[] 40)).heap.size) := Lib.hid (by simp)
  go_wp2_with (first | (at_builtin; refine wpList_append_srcM rfl _ _ rfl w1.heap.size 0 _ [] rfl Em.out _ n S rfl Cm.out ZAm.out ZBm.out ?_))
  intro va wm hown hgr hblk
  have hrow := own_of_row (S := S) (show va.ownsBy wm w1 n S from by simpa [Value.ownsBy] using hown) (by rcases hblk with h | h <;> exact ⟨_, h⟩)
  obtain ⟨gm, czm, rfl, hg, ho, hnc, hcm⟩ := hrow
  have Om := Lib.hid ho
  have Bm := Lib.hid (B1.out.trans (Below.mono (((Below.refl w1.heap.size w1).alloc (Nat.le_refl _) (.cells #[] 40)).grown hgr (by simp) (by intro k hk; simp [Value.ownBlock] at hk; omega)) B1.out.size))
  have Km := Lib.hid (show Below w1.heap.size w1 wm from ((Below.refl w1.heap.size w1).alloc (Nat.le_refl _) (.cells #[] 40)).grown hgr (by simp) (by intro k hk; simp [Value.ownBlock] at hk; omega))
  have Gm := Lib.hid (And.intro hg (And.intro hnc hcm))
  clear hown hgr hblk hg ho hnc hcm Em Cm ZAm ZBm
  have Y2 := Lib.hid (Y1.out.below Km.out)
  have S2 := Lib.hid (S1.out.below Km.out)
  have Et := Lib.hid (own_empty wm)
  have Ct := Lib.hid (S2.out.below ((Below.refl _ _).alloc (Nat.le_refl _) (.cells #[] 40)))
  have ZAt : Hid ((0 + n) * 56 ≤ 140737488355328) := Lib.hid (by omega)
  have ZBt : Hid (wm.heap.size ≤ (wm.alloc (.cells #[] 40)).heap.size) := Lib.hid (by simp)
  go_wp2_with (first | (at_builtin; refine wpList_append_srcM rfl _ _ rfl wm.heap.size 0 _ [] rfl Et.out _ n S rfl Ct.out ZAt.out ZBt.out ?_))
  intro va wt hown hgr hblk
  have hrow := own_of_row (S := S) (show va.ownsBy wt wm n S from by simpa [Value.ownsBy] using hown) (by rcases hblk with h | h <;> exact ⟨_, h⟩)
  obtain ⟨gt, czt, rfl, hg, ho, hnc, hcm⟩ := hrow
  have Ot := Lib.hid ho
  have Bt := Lib.hid (Bm.out.trans (Below.mono (((Below.refl wm.heap.size wm).alloc (Nat.le_refl _) (.cells #[] 40)).grown hgr (by simp) (by intro k hk; simp [Value.ownBlock] at hk; omega)) Bm.out.size))
  have Kt := Lib.hid (show Below wm.heap.size wm wt from ((Below.refl wm.heap.size wm).alloc (Nat.le_refl _) (.cells #[] 40)).grown hgr (by simp) (by intro k hk; simp [Value.ownBlock] at hk; omega))
  have Gt := Lib.hid (And.intro hg (And.intro hnc hcm))
  clear hown hgr hblk hg ho hnc hcm Et Ct ZAt ZBt
  have Y3 := Lib.hid (Y2.out.below Kt.out)
  have S3 := Lib.hid (S2.out.below Kt.out)
  have Om2 := Lib.hid (Om.out.below Kt.out)
  have D1 : Hid (gm ≠ gt ∧ w.heap.size ≠ gm ∧ w.heap.size ≠ gt ∧ w.heap.size ≤ gm ∧ w.heap.size ≤ gt) := Lib.hid (by
    have h1 := Om.out.lt
    have h2 := Gt.out.1
    have h3 := Gm.out.1
    have h4 := Y1.out.lt
    have h5 := Bm.out.size
    omega)
  have hd1 := D1.out.1
  have hd2 := D1.out.2.1
  have hd3 := D1.out.2.2.1
  go_wp2_with fail
  clear hrem
  go_loopw [14] (fun vi wr => ∃ i : Nat, i ≤ n ∧ vi = .int .i64 i ∧ Own wr gm n czm (mix (i * 7) (movS (three y0 y1 y2) S) S) ∧ Own wr gt n czt (mix (i * 7) (turS κ S) S) ∧ Row3 wr w.heap.size (three y0 y1 y2) ∧ Below w.heap.size w wr ∧ (0 < i → bnd y0 ∧ bnd y1 ∧ bnd y2)) (fun vi _ => n - (intOf vi).toNat)
  case atStart => exact ⟨0, Nat.zero_le _, rfl, Om2.out.congr (fun j _ => mix_ge (by omega)), Ot.out.congr (fun j _ => mix_ge (by omega)), Y3.out, Bt.out, fun h => absurd h (by omega)⟩
  case round =>
    obtain ⟨i, hi, rfl, hm, ht, hy, hb, hbd⟩ := hrel
    have HM := Lib.hid hm
    have HT := Lib.hid ht
    have HY := Lib.hid hy
    have HB := Lib.hid hb
    have HBD := Lib.hid hbd
    clear hm ht hy hb hbd
    by_cases hin : i < n
    · obtain ⟨g0, o0, rfl, hl0⟩ := HS.out.cell hin
      have HL0 := Lib.hid hl0
      have hgl : g0 < w.heap.size := hl0.lt (by omega)
      clear hl0
      obtain ⟨wo, rfl⟩ : ∃ wo : World, wo = wr := ⟨_, rfl⟩
      go_wp2
      go_loopw [15] (fun vk wr => ∃ k : Nat, k ≤ 3 ∧ vk = .int .i64 k ∧ Own wr gm n czm (mix (i * 7 + 1 + k) (movS (three y0 y1 y2) S) S) ∧ Own wr gt n czt (mix (i * 7) (turS κ S) S) ∧ Row3 wr w.heap.size (three y0 y1 y2) ∧ Below w.heap.size w wr ∧ (∀ c, c < k → bnd (three y0 y1 y2 c))) (fun vk _ => 3 - (intOf vk).toNat)
      case atStart => exact ⟨0, Nat.zero_le _, rfl, HM.out.congr (fun j _ => mov_start _ _ _ _), HT.out, HY.out, HB.out, fun c hc => by omega⟩
      case round =>
        obtain ⟨k, hk, rfl, hm, ht, hy, hb, hbd⟩ := hrel
        have HM2 := Lib.hid hm
        have HT2 := Lib.hid ht
        have HY2 := Lib.hid hy
        have HB2 := Lib.hid hb
        have HBD2 := Lib.hid hbd
        clear hm ht hy hb hbd
        by_cases hk3 : k < 3
        · have cy := HY2.out.cell hk3
          have cx := HL0.out (i * 7 + 1 + k) (by omega)
          rw [← HB2.out.cell (p := ⟨g0, o0 + (i * 7 + 1 + k), none⟩) hgl, show o0 + (i * 7 + 1 + k) = o0 + i * 7 + 1 + k from by omega] at cx
          have cm := HM2.out.lies (i * 7 + 1 + k) (by omega)
          have fm := HM2.out.free (i * 7 + 1 + k)
          rw [mix_ge (by omega), Nat.zero_add] at cm
          have HUP : Hid (upd (mix (i * 7 + 1 + k) (movS (three y0 y1 y2) S) S) (i * 7 + 1 + k) (movS (three y0 y1 y2) S (i * 7 + 1 + k)) = mix (i * 7 + 1 + (k + 1)) (movS (three y0 y1 y2) S) S) := Lib.hid upd_mix
          have hmv := movS_x (three y0 y1 y2) S i k hk3
          obtain ⟨x, hx⟩ : ∃ x, S (i * 7 + 1 + k) = x := ⟨_, rfl⟩
          obtain ⟨y, hy⟩ : ∃ y, three y0 y1 y2 k = y := ⟨_, rfl⟩
          rw [hx] at cx cm hmv
          rw [hy] at cy hmv
          rw [hmv] at HUP
          have HYV := Lib.hid hy
          clear hx hy hmv
          by_cases q1 : y < -2199023255552
          · go_wp2
            go_ret
            exact ⟨rfl, HB2.out⟩
          by_cases q2 : 2199023255552 < y
          · go_wp2
            go_ret
            exact ⟨rfl, HB2.out⟩
          by_cases q3 : x < -2199023255552
          · go_wp2
            go_ret
            exact ⟨rfl, HB2.out⟩
          by_cases q4 : 2199023255552 < x
          · go_wp2
            go_ret
            exact ⟨rfl, HB2.out⟩
          have HQ : Hid (bnd y) := Lib.hid ⟨by omega, by omega⟩
          go_wp2
          go_still_tail 14, (by kernel_rfl)
          change wpList _ _ _ _ _ wr.drew
          go_wp2
          go_roundw
          case rel => exact ⟨k + 1, by omega, by go_num, by rw [← HUP.out]; exact (HM2.out.drewN 1).set _ _, (HT2.out.drewN 1).far (fun e => hd1 e.symm) _, (HY2.out.drewN 1).far hd2 _, (below_drw HB2.out 1).setCell D1.out.2.2.2.1 _, fun c hc => by
            rcases Nat.lt_or_ge c k with h | h
            · exact HBD2.out c h
            · obtain rfl : c = k := by omega
              rw [HYV.out]; exact HQ.out⟩
          case measure => first | (simp [intOf]; done) | (simp [intOf]; omega)
        · have hk4 : k = 3 := by omega
          subst hk4
          have hb0 := HBD2.out 0 (by omega)
          have hb1 := HBD2.out 1 (by omega)
          have hb2 := HBD2.out 2 (by omega)
          have HB3 : Hid (bnd y0 ∧ bnd y1 ∧ bnd y2) := Lib.hid ⟨hb0, hb1, hb2⟩
          clear hb0 hb1 hb2
          have ax := HL0.out (i * 7 + 1 + κ) (by omega)
          rw [← HB2.out.cell (p := ⟨g0, o0 + (i * 7 + 1 + κ), none⟩) hgl, show o0 + (i * 7 + 1 + κ) = o0 + i * 7 + 1 + κ from by omega] at ax
          have ap := HL0.out (i * 7 + 4 + κ) (by omega)
          have tx := HT2.out.lies (i * 7 + 1 + κ) (by omega)
          have fx := HT2.out.free (i * 7 + 1 + κ)
          rw [Nat.zero_add] at tx
          have HST := Lib.hid (fun e => tur_step κ hkl S i e)
          obtain ⟨x, hx⟩ : ∃ x, S (i * 7 + 1 + κ) = x := ⟨_, rfl⟩
          obtain ⟨p, hp⟩ : ∃ p, S (i * 7 + 4 + κ) = p := ⟨_, rfl⟩
          rw [hx] at ax HST
          rw [hp] at ap HST
          obtain ⟨nx, hnx⟩ : ∃ z, wrap64 (-x) = z := ⟨_, rfl⟩
          obtain ⟨np, hnp⟩ : ∃ z, wrap64 (-p) = z := ⟨_, rfl⟩
          have hnx2 : IntKind.i64.wrap (-x) = nx := by rw [IntWalk.i64_left]; exact hnx
          have hnp2 : IntKind.i64.wrap (-p) = np := by rw [IntWalk.i64_left]; exact hnp
          rw [hnx, hnp] at HST
          clear hx hp
          have OT1 := Lib.hid ((HT2.out.drewN 1).set (i * 7 + 1 + κ) nx)
          have OM1 := Lib.hid ((HM2.out.drewN 1).far (b := gt) (k := i * 7 + 1 + κ) hd1 (.int .i64 nx))
          have OY1 := Lib.hid ((HY2.out.drewN 1).far (b := gt) (k := i * 7 + 1 + κ) hd3 (.int .i64 nx))
          have OB1 := Lib.hid ((below_drw HB2.out 1).setCell (p := ⟨gt, i * 7 + 1 + κ, none⟩) D1.out.2.2.2.2 (.int .i64 nx))
          go_wp2
          go_still_tail 14, (by kernel_rfl)
          change wpList _ _ _ _ _ wr.drew
          go_wp2
          clear tx fx ax
          revert OT1 OM1 OY1 OB1
          show Hid (Own (wr.setCell ⟨gt, i * 7 + 1 + κ, none⟩ (.int .i64 nx)).drew _ _ _ _) → Hid (Own (wr.setCell ⟨gt, i * 7 + 1 + κ, none⟩ (.int .i64 nx)).drew _ _ _ _) → Hid (Row3 (wr.setCell ⟨gt, i * 7 + 1 + κ, none⟩ (.int .i64 nx)).drew _ _) → Hid (Below w.heap.size w (wr.setCell ⟨gt, i * 7 + 1 + κ, none⟩ (.int .i64 nx)).drew) → _
          generalize (wr.setCell ⟨gt, i * 7 + 1 + κ, none⟩ (.int .i64 nx)).drew = w2x
          intro OT1 OM1 OY1 OB1
          rw [← OB1.out.cell (p := ⟨g0, o0 + (i * 7 + 4 + κ), none⟩) hgl, show o0 + (i * 7 + 4 + κ) = o0 + i * 7 + 4 + κ from by omega] at ap
          have tp := OT1.out.lies (i * 7 + 4 + κ) (by omega)
          have fp := OT1.out.free (i * 7 + 4 + κ)
          rw [Nat.zero_add] at tp
          go_wp2
          go_still_tail 14, (by kernel_rfl)
          change wpList _ _ _ _ _ w2x.drew
          go_wp2
          go_roundw
          case rel => exact ⟨i + 1, by omega, by go_num, (((OM1.out.drewN 1).far (b := gt) (k := i * 7 + 4 + κ) hd1 _)).congr (fun e _ => mov_end _ _ _ _), ((OT1.out.drewN 1).set (i * 7 + 4 + κ) np).congr (fun e _ => HST.out e), (OY1.out.drewN 1).far hd3 _, (below_drw OB1.out 1).setCell D1.out.2.2.2.2 _, fun _ => HB3.out⟩
          case measure => first | (simp [intOf]; done) | (simp [intOf]; omega)
    · have hin2 : i = n := by omega
      subst hin2
      have HSR := Lib.hid (HS.out.below HB.out)
      have Ea := Lib.hid (own_empty wr)
      have Ca := Lib.hid (HSR.out.below ((Below.refl _ _).alloc (Nat.le_refl _) (.cells #[] 40)))
      have ZAa : Hid ((0 + i) * 56 ≤ 140737488355328) := Lib.hid (by omega)
      have ZBa : Hid (wr.heap.size ≤ (wr.alloc (.cells #[] 40)).heap.size) := Lib.hid (by simp)
      go_wp2_with (first | (at_builtin; refine wpList_append_srcM rfl _ _ rfl wr.heap.size 0 _ [] rfl Ea.out _ i S rfl Ca.out ZAa.out ZBa.out ?_))
      intro va wa hown hgr hblk
      have hrow := own_of_row (S := S) (show va.ownsBy wa wr i S from by simpa [Value.ownsBy] using hown) (by rcases hblk with h | h <;> exact ⟨_, h⟩)
      obtain ⟨ga, cza, rfl, hg, ho, hnc, hcm⟩ := hrow
      have Oa := Lib.hid ho
      have Ba := Lib.hid (HB.out.trans (Below.mono (((Below.refl wr.heap.size wr).alloc (Nat.le_refl _) (.cells #[] 40)).grown hgr (by simp) (by intro k hk; simp [Value.ownBlock] at hk; omega)) HB.out.size))
      have Ka := Lib.hid (show Below wr.heap.size wr wa from ((Below.refl wr.heap.size wr).alloc (Nat.le_refl _) (.cells #[] 40)).grown hgr (by simp) (by intro k hk; simp [Value.ownBlock] at hk; omega))
      clear hown hgr hblk hg ho hnc hcm Ea Ca ZAa ZBa
      have HMm := Lib.hid ((HM.out.congr (T := movS (three y0 y1 y2) S) (fun e he => (mix_lt he).symm)).min (c2 := czm))
      have HMt := Lib.hid ((HT.out.congr (T := turS κ S) (fun e he => (mix_lt he).symm)).min (c2 := czt))
      have Am := Lib.hid (HMm.out.below Ka.out)
      have At := Lib.hid (HMt.out.below Ka.out)
      have Ay := Lib.hid (HY.out.below Ka.out)
      have hr1 := runP_any (.slice (some ⟨ga, 0, none⟩) i cza) i gw M S wa Oa.out.min hn HGW.out (by omega)
      have HR1 := Lib.hid hr1
      have HTR := Lib.hid (turned_R (κ := κ) (n := i) (gw := gw) (S := S) (T := turS κ S) (N := M) (tur_chk hkl HSB.out) (fun h => tur_turned hkl h))
      have HMR := Lib.hid (fun h1 h2 => moved_R (m := three y0 y1 y2) (n := i) (gw := gw) (S := S) (T := movS (three y0 y1 y2) S) (N := M) (movS_moved _ _ _) h1 h2)
      clear hr1
      go_wp2_with fail
      refine (HN.out _).mono ?_
      rintro e w' ⟨rfl, rfl⟩
      go_wp2_with fail
      refine HR1.out.mono ?_
      intro e wA h
      obtain ⟨A1, l1, k1, rfl, hb, hA⟩ := run_res h
      have BA := Lib.hid (Ba.out.trans (hb.mono Ba.out.size))
      have Bm1 := Lib.hid (Am.out.below hb)
      have Bt1 := Lib.hid (At.out.below hb)
      have By1 := Lib.hid (Ay.out.below hb)
      have HA1 := Lib.hid hA
      clear h hb hA HR1
      have hr2 := runP_any (.slice (some ⟨gm, 0, none⟩) i czm) i gw M (movS (three y0 y1 y2) S) wA Bm1.out hn HGW.out (by omega)
      have HR2 := Lib.hid hr2
      clear hr2
      obtain ⟨E1, hE1⟩ : ∃ E, (runR gw i S M).1 = E := ⟨_, rfl⟩
      rw [hE1]
      have HE1 := Lib.hid hE1
      clear hE1
      go_wp2_with fail
      refine (HN.out _).mono ?_
      rintro e w' ⟨rfl, rfl⟩
      go_wp2_with fail
      refine HR2.out.mono ?_
      intro e wB h
      obtain ⟨A2, l2, k2, rfl, hb, hA⟩ := run_res h
      have BB := Lib.hid (BA.out.trans (hb.mono BA.out.size))
      have Bt2 := Lib.hid (Bt1.out.below hb)
      have By2 := Lib.hid (By1.out.below hb)
      have HA1b := Lib.hid (fun h => (HA1.out h).2.below hb)
      have HA2 := Lib.hid hA
      have KB := Lib.hid hb
      clear h hb hA HR2
      have hr3 := runP_any (.slice (some ⟨gt, 0, none⟩) i czt) i gw M (turS κ S) wB Bt2.out hn HGW.out (by omega)
      have HR3 := Lib.hid hr3
      clear hr3
      obtain ⟨E2, hE2⟩ : ∃ E, (runR gw i (movS (three y0 y1 y2) S) M).1 = E := ⟨_, rfl⟩
      rw [hE2]
      have HE2 := Lib.hid hE2
      clear hE2
      go_wp2_with fail
      refine (HN.out _).mono ?_
      rintro e w' ⟨rfl, rfl⟩
      go_wp2_with fail
      refine HR3.out.mono ?_
      intro e wC h
      obtain ⟨A3, l3, k3, rfl, hb, hA⟩ := run_res h
      have BC := Lib.hid (BB.out.trans (hb.mono BB.out.size))
      have By3 := Lib.hid (By2.out.below hb)
      have HA1c := Lib.hid (fun h => (HA1b.out h).below hb)
      have HA2c := Lib.hid (fun h => (HA2.out h).2.below hb)
      have HA3 := Lib.hid hA
      clear h hb hA HR3
      rw [HTR.out.1, HE1.out]
      by_cases e1 : E1 = 0
      · have HZ1 : Hid ((runR gw i S M).1 = 0) := Lib.hid (by rw [HE1.out]; exact e1)
        have HZ3 : Hid ((runR gw i (turS κ S) M).1 = 0) := Lib.hid (by rw [HTR.out.1]; exact HZ1.out)
        have hl1 := (HA1.out HZ1.out).1
        have hl3 := (HA3.out HZ3.out).1
        have M1 := Lib.hid (HA1c.out HZ1.out)
        have M3 := Lib.hid (HA3.out HZ3.out).2
        have TR := Lib.hid (HTR.out.2 HZ1.out)
        subst hl1
        subst hl3
        subst e1
        have HOK1 := Lib.hid (chk_zero.1 (run_ok HZ1.out).1).2
        by_cases e2 : E2 = 0
        · have HZ2 : Hid ((runR gw l3 (movS (three y0 y1 y2) S) M).1 = 0) := Lib.hid (by rw [HE2.out]; exact e2)
          have hl2 := (HA2.out HZ2.out).1
          have M2 := Lib.hid (HA2c.out HZ2.out)
          have MV := Lib.hid (HMR.out HZ1.out HZ2.out)
          subst e2
          obtain rfl : l2 = l3 := hl2
          go_wp2_with fail
          go_loopw [22] (fun vi wr => ∃ j : Nat, j ≤ l2 ∧ vi = .int .i64 j ∧ Below wC.heap.size wC wr) (fun vi _ => l2 - (intOf vi).toNat)
          case atStart => exact ⟨0, Nat.zero_le _, rfl, Below.refl _ _⟩
          case round =>
            obtain ⟨j, hj, rfl, hb⟩ := hrel
            have HB5 := Lib.hid hb
            clear hb
            by_cases hjn : j < l2
            · obtain ⟨g1, o1, eq1, q1⟩ := M1.out.cell hjn
              cases eq1
              have hg1 := q1.lt (by omega)
              obtain ⟨a0, a1, a2, a3, a4, a5, a6⟩ := (q1.below HB5.out (by omega)).seven hjn
              have hg1r : g1 < wr.heap.size := Nat.lt_of_lt_of_le hg1 HB5.out.size
              clear q1
              obtain ⟨wo, rfl⟩ : ∃ wo : World, wo = wr := ⟨_, rfl⟩
              go_wp2_with fail
              go_region
              all_goals go_wp2_with fail
              · have H2 := two_mass wo (fun e => (runR gw l2 S M).2 (j * 7 + e))
                have H3 := And.intro H2.1 (And.intro H2.2.1 (And.intro (show wo.heap.size ≠ wo.heap.size + 1 by omega) (And.intro (show wC.heap.size ≤ wo.heap.size from HB5.out.size) (And.intro (show wC.heap.size ≤ wo.heap.size + 1 from Nat.le_succ_of_le HB5.out.size) (HB5.out.trans (H2.2.2.mono HB5.out.size))))))
                clear H2 a0 a1 a2 a3 a4 a5 a6 hg1r
                revert H3
                show Own ((wo.alloc (.cells #[.int .i64 ((runR gw l2 S M).2 (j * 7)), .int .i64 ((runR gw l2 S M).2 (j * 7 + 1)), .int .i64 ((runR gw l2 S M).2 (j * 7 + 2)), .int .i64 ((runR gw l2 S M).2 (j * 7 + 3)), .int .i64 ((runR gw l2 S M).2 (j * 7 + 4)), .int .i64 ((runR gw l2 S M).2 (j * 7 + 5)), .int .i64 ((runR gw l2 S M).2 (j * 7 + 6))] 40)).alloc (.cells #[.int .i64 ((runR gw l2 S M).2 (j * 7)), .int .i64 ((runR gw l2 S M).2 (j * 7 + 1)), .int .i64 ((runR gw l2 S M).2 (j * 7 + 2)), .int .i64 ((runR gw l2 S M).2 (j * 7 + 3)), .int .i64 ((runR gw l2 S M).2 (j * 7 + 4)), .int .i64 ((runR gw l2 S M).2 (j * 7 + 5)), .int .i64 ((runR gw l2 S M).2 (j * 7 + 6))] 40)).drew _ 1 1 _ ∧ Own ((wo.alloc (.cells #[.int .i64 ((runR gw l2 S M).2 (j * 7)), .int .i64 ((runR gw l2 S M).2 (j * 7 + 1)), .int .i64 ((runR gw l2 S M).2 (j * 7 + 2)), .int .i64 ((runR gw l2 S M).2 (j * 7 + 3)), .int .i64 ((runR gw l2 S M).2 (j * 7 + 4)), .int .i64 ((runR gw l2 S M).2 (j * 7 + 5)), .int .i64 ((runR gw l2 S M).2 (j * 7 + 6))] 40)).alloc (.cells #[.int .i64 ((runR gw l2 S M).2 (j * 7)), .int .i64 ((runR gw l2 S M).2 (j * 7 + 1)), .int .i64 ((runR gw l2 S M).2 (j * 7 + 2)), .int .i64 ((runR gw l2 S M).2 (j * 7 + 3)), .int .i64 ((runR gw l2 S M).2 (j * 7 + 4)), .int .i64 ((runR gw l2 S M).2 (j * 7 + 5)), .int .i64 ((runR gw l2 S M).2 (j * 7 + 6))] 40)).drew _ 1 1 _ ∧ _ ∧ _ ∧ _ ∧ Below wC.heap.size wC ((wo.alloc (.cells #[.int .i64 ((runR gw l2 S M).2 (j * 7)), .int .i64 ((runR gw l2 S M).2 (j * 7 + 1)), .int .i64 ((runR gw l2 S M).2 (j * 7 + 2)), .int .i64 ((runR gw l2 S M).2 (j * 7 + 3)), .int .i64 ((runR gw l2 S M).2 (j * 7 + 4)), .int .i64 ((runR gw l2 S M).2 (j * 7 + 5)), .int .i64 ((runR gw l2 S M).2 (j * 7 + 6))] 40)).alloc (.cells #[.int .i64 ((runR gw l2 S M).2 (j * 7)), .int .i64 ((runR gw l2 S M).2 (j * 7 + 1)), .int .i64 ((runR gw l2 S M).2 (j * 7 + 2)), .int .i64 ((runR gw l2 S M).2 (j * 7 + 3)), .int .i64 ((runR gw l2 S M).2 (j * 7 + 4)), .int .i64 ((runR gw l2 S M).2 (j * 7 + 5)), .int .i64 ((runR gw l2 S M).2 (j * 7 + 6))] 40)).drew → _
                generalize (World.alloc (World.alloc wo _) _).drew = W2
                generalize wo.heap.size + 1 = gy
                generalize wo.heap.size = gx
                intro H3
                replace H3 := Lib.hid H3
                obtain ⟨A, hA⟩ : ∃ A, (fun e => (runR gw l2 S M).2 (j * 7 + e)) = A := ⟨_, rfl⟩
                rw [hA] at H3
                have HAE := Lib.hid hA
                have HAV : Hid (∀ t, A t = (runR gw l2 S M).2 (j * 7 + t)) := Lib.hid (fun t => by rw [← hA])
                have HOKJ := Lib.hid (HOK1.out j hjn)
                have HBY := Lib.hid (HBD.out (by omega))
                clear hA
                go_loopw [25] (fun vk wr => ∃ k : Nat, k ≤ 3 ∧ vk = .int .i64 k ∧ Own wr gx 1 1 (mix (1 + k) (movS (three y0 y1 y2) A) A) ∧ Own wr gy 1 1 A ∧ Below wC.heap.size wC wr) (fun vk _ => 3 - (intOf vk).toNat)
                case atStart => exact ⟨0, Nat.zero_le _, rfl, H3.out.1.congr (fun e _ => one_start _ _ _), H3.out.2.1, H3.out.2.2.2.2.2⟩
                case round =>
                  obtain ⟨k, hk, rfl, hx, hy, hb⟩ := hrel
                  have HX := Lib.hid hx
                  have HY6 := Lib.hid hy
                  have HB6 := Lib.hid hb
                  clear hx hy hb
                  by_cases hk3 : k < 3
                  · have cx := HX.out.lies (1 + k) (by omega)
                    have fx := HX.out.free (1 + k)
                    rw [mix_ge (by omega), Nat.zero_add] at cx
                    have cy := (By3.out.below HB6.out).cell hk3
                    have hox := (HOKJ.out.2 k hk3).1
                    rw [Nat.add_assoc, ← HAV.out (1 + k)] at hox
                    have hyb : bnd (three y0 y1 y2 k) := by
                      unfold three
                      split
                      · exact HBY.out.1
                      · split
                        · exact HBY.out.2.1
                        · exact HBY.out.2.2
                    have HUP : Hid (upd (mix (1 + k) (movS (three y0 y1 y2) A) A) (1 + k) (movS (three y0 y1 y2) A (1 + k)) = mix (1 + (k + 1)) (movS (three y0 y1 y2) A) A) := Lib.hid upd_mix
                    have hmv : movS (three y0 y1 y2) A (1 + k) = A (1 + k) + three y0 y1 y2 k := by unfold movS; rw [if_pos (by omega), show (1 + k) % 7 - 1 = k from by omega]
                    rw [hmv] at HUP
                    obtain ⟨x, hx⟩ : ∃ x, A (1 + k) = x := ⟨_, rfl⟩
                    obtain ⟨y, hy⟩ : ∃ y, three y0 y1 y2 k = y := ⟨_, rfl⟩
                    rw [hx] at cx hox HUP
                    rw [hy] at cy hyb HUP
                    unfold okX at hox
                    unfold bnd at hyb
                    have w4 : IntKind.i64.wrap (x + y) = x + y := IntWalk.i64_in _ (by omega)
                    have w5 : wrap64 (x + y) = x + y := IntWalk.wrap64_in _ (by omega)
                    clear hx hy hmv hox hyb
                    go_wp2
                    go_still_tail 10, (by kernel_rfl)
                    change wpList _ _ _ _ _ wr.drew
                    go_wp2
                    go_roundw
                    case rel => exact ⟨k + 1, by omega, by go_num, by rw [← HUP.out]; exact (HX.out.drewN 1).set _ _, (HY6.out.drewN 1).far (fun e => H3.out.2.2.1 e.symm) _, (below_drw HB6.out 1).setCell H3.out.2.2.2.1 _⟩
                    case measure => first | (simp [intOf]; done) | (simp [intOf]; omega)
                  · have hk4 : k = 3 := by omega
                    subst hk4
                    have cx := HY6.out.lies (1 + κ) (by omega)
                    have cp := HY6.out.lies (4 + κ) (by omega)
                    have fx := HY6.out.free (1 + κ)
                    have fp := HY6.out.free (4 + κ)
                    rw [Nat.zero_add] at cx cp
                    have hox := (HOKJ.out.2 κ hkl)
                    rw [Nat.add_assoc, Nat.add_assoc, ← HAV.out (1 + κ), ← HAV.out (4 + κ)] at hox
                    obtain ⟨hox, hop⟩ := hox
                    have OY5 := Lib.hid (((HY6.out.drewN 1).set (1 + κ) (-A (1 + κ))).set (4 + κ) (-A (4 + κ)))
                    have OX5 := Lib.hid (((HX.out.drewN 1).far (b := gy) (k := 1 + κ) H3.out.2.2.1 (.int .i64 (-A (1 + κ)))).far (b := gy) (k := 4 + κ) H3.out.2.2.1 (.int .i64 (-A (4 + κ))))
                    have OB5 := Lib.hid (((below_drw HB6.out 1).setCell (p := ⟨gy, 1 + κ, none⟩) H3.out.2.2.2.2.1 (.int .i64 (-A (1 + κ)))).setCell (p := ⟨gy, 4 + κ, none⟩) H3.out.2.2.2.2.1 (.int .i64 (-A (4 + κ))))
                    obtain ⟨x, hx⟩ : ∃ x, A (1 + κ) = x := ⟨_, rfl⟩
                    obtain ⟨p, hp⟩ : ∃ p, A (4 + κ) = p := ⟨_, rfl⟩
                    have HXP := Lib.hid (And.intro hx hp)
                    rw [hx] at cx hox OY5 OX5 OB5
                    rw [hp] at cp hop OY5 OX5 OB5
                    unfold okX at hox
                    unfold okP at hop
                    have w4 : IntKind.i64.wrap (-x) = -x := IntWalk.i64_in _ (by omega)
                    have w5 : wrap64 (-x) = -x := IntWalk.wrap64_in _ (by omega)
                    have w6 : IntKind.i64.wrap (-p) = -p := IntWalk.i64_in _ (by omega)
                    have w7 : wrap64 (-p) = -p := IntWalk.wrap64_in _ (by omega)
                    clear hx hp hox hop
                    go_wp2
                    go_region
                    go_wp2_with fail
                    clear cx cp fx fp w4 w5 w6 w7
                    revert OY5 OX5 OB5
                    show Hid (Below wC.heap.size wC ((wr.setCell ⟨gy, 1 + κ, none⟩ (.int .i64 (-x))).setCell ⟨gy, 4 + κ, none⟩ (.int .i64 (-p))).drew) → Hid (Own ((wr.setCell ⟨gy, 1 + κ, none⟩ (.int .i64 (-x))).setCell ⟨gy, 4 + κ, none⟩ (.int .i64 (-p))).drew _ _ _ _) → Hid (Own ((wr.setCell ⟨gy, 1 + κ, none⟩ (.int .i64 (-x))).setCell ⟨gy, 4 + κ, none⟩ (.int .i64 (-p))).drew _ _ _ _) → _
                    generalize ((wr.setCell ⟨gy, 1 + κ, none⟩ (.int .i64 (-x))).setCell ⟨gy, 4 + κ, none⟩ (.int .i64 (-p))).drew = w5x
                    intro OB5 OX5 OY5
                    obtain ⟨g3, o3, eq3, q3⟩ := M3.out.cell hjn
                    cases eq3
                    obtain ⟨c0, c1, c2, c3, c4, c5, c6⟩ := (q3.below OB5.out (by omega)).seven hjn
                    have HTC : Hid (∀ t, t < 7 → (runR gw l2 (turS κ S) M).2 (j * 7 + t) = turA κ A t) := Lib.hid (fun t ht => by rw [turA_cell hkl TR.out hjn ht, ← HAE.out])
                    have HUA : Hid (∀ t, t < 7 → upd (upd A (1 + κ) (-x)) (4 + κ) (-p) t = turA κ A t) := Lib.hid (fun t _ => by unfold turA; rw [HXP.out.1, HXP.out.2])
                    have ty := fun t ht => OY5.out.lies t (by omega)
                    have y0' := ty 0 (by omega)
                    have y1' := ty 1 (by omega)
                    have y2' := ty 2 (by omega)
                    have y3' := ty 3 (by omega)
                    have y4' := ty 4 (by omega)
                    have y5' := ty 5 (by omega)
                    have y6' := ty 6 (by omega)
                    rw [HUA.out 0 (by omega), Nat.zero_add] at y0'
                    rw [HUA.out 1 (by omega), Nat.zero_add] at y1'
                    rw [HUA.out 2 (by omega), Nat.zero_add] at y2'
                    rw [HUA.out 3 (by omega), Nat.zero_add] at y3'
                    rw [HUA.out 4 (by omega), Nat.zero_add] at y4'
                    rw [HUA.out 5 (by omega), Nat.zero_add] at y5'
                    rw [HUA.out 6 (by omega), Nat.zero_add] at y6'
                    rw [show (runR gw l2 (turS κ S) M).2 (j * 7) = turA κ A 0 from HTC.out 0 (by omega)] at c0
                    rw [HTC.out 1 (by omega)] at c1
                    rw [HTC.out 2 (by omega)] at c2
                    rw [HTC.out 3 (by omega)] at c3
                    rw [HTC.out 4 (by omega)] at c4
                    rw [HTC.out 5 (by omega)] at c5
                    rw [HTC.out 6 (by omega)] at c6
                    clear q3 ty
                    generalize turA κ A 0 = r0 at *
                    generalize turA κ A 1 = r1 at *
                    generalize turA κ A 2 = r2 at *
                    generalize turA κ A 3 = r3 at *
                    generalize turA κ A 4 = r4 at *
                    generalize turA κ A 5 = r5 at *
                    generalize turA κ A 6 = r6 at *
                    have f1 := fun u => run_eq3_same r1 r2 r3 u
                    have f2 := fun u => run_eq3_same r4 r5 r6 u
                    obtain ⟨g2, o2, eq2, q2⟩ := M2.out.cell hjn
                    cases eq2
                    obtain ⟨b0, b1, b2, b3, b4, b5, b6⟩ := (q2.below OB5.out (by omega)).seven hjn
                    have HTB : Hid (∀ t, t < 7 → (runR gw l2 (movS (three y0 y1 y2) S) M).2 (j * 7 + t) = movS (three y0 y1 y2) A t) := Lib.hid (fun t ht => by rw [movA_cell MV.out hjn ht, ← HAE.out])
                    have HUB : Hid (∀ t, t < 7 → mix (1 + 3) (movS (three y0 y1 y2) A) A t = movS (three y0 y1 y2) A t) := Lib.hid (fun t ht => (one_end _ _ t ht).symm)
                    have tx := fun t ht => OX5.out.lies t (by omega)
                    have x0' := tx 0 (by omega)
                    have x1' := tx 1 (by omega)
                    have x2' := tx 2 (by omega)
                    have x3' := tx 3 (by omega)
                    have x4' := tx 4 (by omega)
                    have x5' := tx 5 (by omega)
                    have x6' := tx 6 (by omega)
                    rw [HUB.out 0 (by omega), Nat.zero_add] at x0'
                    rw [HUB.out 1 (by omega), Nat.zero_add] at x1'
                    rw [HUB.out 2 (by omega), Nat.zero_add] at x2'
                    rw [HUB.out 3 (by omega), Nat.zero_add] at x3'
                    rw [HUB.out 4 (by omega), Nat.zero_add] at x4'
                    rw [HUB.out 5 (by omega), Nat.zero_add] at x5'
                    rw [HUB.out 6 (by omega), Nat.zero_add] at x6'
                    rw [show (runR gw l2 (movS (three y0 y1 y2) S) M).2 (j * 7) = movS (three y0 y1 y2) A 0 from HTB.out 0 (by omega)] at b0
                    rw [HTB.out 1 (by omega)] at b1
                    rw [HTB.out 2 (by omega)] at b2
                    rw [HTB.out 3 (by omega)] at b3
                    rw [HTB.out 4 (by omega)] at b4
                    rw [HTB.out 5 (by omega)] at b5
                    rw [HTB.out 6 (by omega)] at b6
                    clear q2 tx
                    generalize movS (three y0 y1 y2) A 0 = s0 at *
                    generalize movS (three y0 y1 y2) A 1 = s1 at *
                    generalize movS (three y0 y1 y2) A 2 = s2 at *
                    generalize movS (three y0 y1 y2) A 3 = s3 at *
                    generalize movS (three y0 y1 y2) A 4 = s4 at *
                    generalize movS (three y0 y1 y2) A 5 = s5 at *
                    generalize movS (three y0 y1 y2) A 6 = s6 at *
                    have f3 := fun u => run_eq3_same s1 s2 s3 u
                    have f4 := fun u => run_eq3_same s4 s5 s6 u
                    go_wp2_with fail
                    go_quiet (fail)
                    go_wp2
                    go_roundw
                    case rel => exact ⟨j + 1, by omega, by go_num, below_drw OB5.out _⟩
                    case measure => first | (simp [intOf]; done) | (simp [intOf]; omega)
              · have H2 := two_mass wo (fun e => (runR gw l2 S M).2 (j * 7 + e))
                have H3 := And.intro H2.2.1 (And.intro H2.1 (And.intro (show wo.heap.size + 1 ≠ wo.heap.size by omega) (And.intro (show wC.heap.size ≤ wo.heap.size + 1 from Nat.le_succ_of_le HB5.out.size) (And.intro (show wC.heap.size ≤ wo.heap.size from HB5.out.size) (HB5.out.trans (H2.2.2.mono HB5.out.size))))))
                clear H2 a0 a1 a2 a3 a4 a5 a6 hg1r
                revert H3
                show Own ((wo.alloc (.cells #[.int .i64 ((runR gw l2 S M).2 (j * 7)), .int .i64 ((runR gw l2 S M).2 (j * 7 + 1)), .int .i64 ((runR gw l2 S M).2 (j * 7 + 2)), .int .i64 ((runR gw l2 S M).2 (j * 7 + 3)), .int .i64 ((runR gw l2 S M).2 (j * 7 + 4)), .int .i64 ((runR gw l2 S M).2 (j * 7 + 5)), .int .i64 ((runR gw l2 S M).2 (j * 7 + 6))] 40)).alloc (.cells #[.int .i64 ((runR gw l2 S M).2 (j * 7)), .int .i64 ((runR gw l2 S M).2 (j * 7 + 1)), .int .i64 ((runR gw l2 S M).2 (j * 7 + 2)), .int .i64 ((runR gw l2 S M).2 (j * 7 + 3)), .int .i64 ((runR gw l2 S M).2 (j * 7 + 4)), .int .i64 ((runR gw l2 S M).2 (j * 7 + 5)), .int .i64 ((runR gw l2 S M).2 (j * 7 + 6))] 40)).drew _ 1 1 _ ∧ Own ((wo.alloc (.cells #[.int .i64 ((runR gw l2 S M).2 (j * 7)), .int .i64 ((runR gw l2 S M).2 (j * 7 + 1)), .int .i64 ((runR gw l2 S M).2 (j * 7 + 2)), .int .i64 ((runR gw l2 S M).2 (j * 7 + 3)), .int .i64 ((runR gw l2 S M).2 (j * 7 + 4)), .int .i64 ((runR gw l2 S M).2 (j * 7 + 5)), .int .i64 ((runR gw l2 S M).2 (j * 7 + 6))] 40)).alloc (.cells #[.int .i64 ((runR gw l2 S M).2 (j * 7)), .int .i64 ((runR gw l2 S M).2 (j * 7 + 1)), .int .i64 ((runR gw l2 S M).2 (j * 7 + 2)), .int .i64 ((runR gw l2 S M).2 (j * 7 + 3)), .int .i64 ((runR gw l2 S M).2 (j * 7 + 4)), .int .i64 ((runR gw l2 S M).2 (j * 7 + 5)), .int .i64 ((runR gw l2 S M).2 (j * 7 + 6))] 40)).drew _ 1 1 _ ∧ _ ∧ _ ∧ _ ∧ Below wC.heap.size wC ((wo.alloc (.cells #[.int .i64 ((runR gw l2 S M).2 (j * 7)), .int .i64 ((runR gw l2 S M).2 (j * 7 + 1)), .int .i64 ((runR gw l2 S M).2 (j * 7 + 2)), .int .i64 ((runR gw l2 S M).2 (j * 7 + 3)), .int .i64 ((runR gw l2 S M).2 (j * 7 + 4)), .int .i64 ((runR gw l2 S M).2 (j * 7 + 5)), .int .i64 ((runR gw l2 S M).2 (j * 7 + 6))] 40)).alloc (.cells #[.int .i64 ((runR gw l2 S M).2 (j * 7)), .int .i64 ((runR gw l2 S M).2 (j * 7 + 1)), .int .i64 ((runR gw l2 S M).2 (j * 7 + 2)), .int .i64 ((runR gw l2 S M).2 (j * 7 + 3)), .int .i64 ((runR gw l2 S M).2 (j * 7 + 4)), .int .i64 ((runR gw l2 S M).2 (j * 7 + 5)), .int .i64 ((runR gw l2 S M).2 (j * 7 + 6))] 40)).drew → _
                generalize (World.alloc (World.alloc wo _) _).drew = W2
                generalize wo.heap.size + 1 = gx
                generalize wo.heap.size = gy
                intro H3
                replace H3 := Lib.hid H3
                obtain ⟨A, hA⟩ : ∃ A, (fun e => (runR gw l2 S M).2 (j * 7 + e)) = A := ⟨_, rfl⟩
                rw [hA] at H3
                have HAE := Lib.hid hA
                have HAV : Hid (∀ t, A t = (runR gw l2 S M).2 (j * 7 + t)) := Lib.hid (fun t => by rw [← hA])
                have HOKJ := Lib.hid (HOK1.out j hjn)
                have HBY := Lib.hid (HBD.out (by omega))
                clear hA
                go_loopw [25] (fun vk wr => ∃ k : Nat, k ≤ 3 ∧ vk = .int .i64 k ∧ Own wr gx 1 1 (mix (1 + k) (movS (three y0 y1 y2) A) A) ∧ Own wr gy 1 1 A ∧ Below wC.heap.size wC wr) (fun vk _ => 3 - (intOf vk).toNat)
                case atStart => exact ⟨0, Nat.zero_le _, rfl, H3.out.1.congr (fun e _ => one_start _ _ _), H3.out.2.1, H3.out.2.2.2.2.2⟩
                case round =>
                  obtain ⟨k, hk, rfl, hx, hy, hb⟩ := hrel
                  have HX := Lib.hid hx
                  have HY6 := Lib.hid hy
                  have HB6 := Lib.hid hb
                  clear hx hy hb
                  by_cases hk3 : k < 3
                  · have cx := HX.out.lies (1 + k) (by omega)
                    have fx := HX.out.free (1 + k)
                    rw [mix_ge (by omega), Nat.zero_add] at cx
                    have cy := (By3.out.below HB6.out).cell hk3
                    have hox := (HOKJ.out.2 k hk3).1
                    rw [Nat.add_assoc, ← HAV.out (1 + k)] at hox
                    have hyb : bnd (three y0 y1 y2 k) := by
                      unfold three
                      split
                      · exact HBY.out.1
                      · split
                        · exact HBY.out.2.1
                        · exact HBY.out.2.2
                    have HUP : Hid (upd (mix (1 + k) (movS (three y0 y1 y2) A) A) (1 + k) (movS (three y0 y1 y2) A (1 + k)) = mix (1 + (k + 1)) (movS (three y0 y1 y2) A) A) := Lib.hid upd_mix
                    have hmv : movS (three y0 y1 y2) A (1 + k) = A (1 + k) + three y0 y1 y2 k := by unfold movS; rw [if_pos (by omega), show (1 + k) % 7 - 1 = k from by omega]
                    rw [hmv] at HUP
                    obtain ⟨x, hx⟩ : ∃ x, A (1 + k) = x := ⟨_, rfl⟩
                    obtain ⟨y, hy⟩ : ∃ y, three y0 y1 y2 k = y := ⟨_, rfl⟩
                    rw [hx] at cx hox HUP
                    rw [hy] at cy hyb HUP
                    unfold okX at hox
                    unfold bnd at hyb
                    have w4 : IntKind.i64.wrap (x + y) = x + y := IntWalk.i64_in _ (by omega)
                    have w5 : wrap64 (x + y) = x + y := IntWalk.wrap64_in _ (by omega)
                    clear hx hy hmv hox hyb
                    go_wp2
                    go_still_tail 10, (by kernel_rfl)
                    change wpList _ _ _ _ _ wr.drew
                    go_wp2
                    go_roundw
                    case rel => exact ⟨k + 1, by omega, by go_num, by rw [← HUP.out]; exact (HX.out.drewN 1).set _ _, (HY6.out.drewN 1).far (fun e => H3.out.2.2.1 e.symm) _, (below_drw HB6.out 1).setCell H3.out.2.2.2.1 _⟩
                    case measure => first | (simp [intOf]; done) | (simp [intOf]; omega)
                  · have hk4 : k = 3 := by omega
                    subst hk4
                    have cx := HY6.out.lies (1 + κ) (by omega)
                    have cp := HY6.out.lies (4 + κ) (by omega)
                    have fx := HY6.out.free (1 + κ)
                    have fp := HY6.out.free (4 + κ)
                    rw [Nat.zero_add] at cx cp
                    have hox := (HOKJ.out.2 κ hkl)
                    rw [Nat.add_assoc, Nat.add_assoc, ← HAV.out (1 + κ), ← HAV.out (4 + κ)] at hox
                    obtain ⟨hox, hop⟩ := hox
                    have OY5 := Lib.hid (((HY6.out.drewN 1).set (1 + κ) (-A (1 + κ))).set (4 + κ) (-A (4 + κ)))
                    have OX5 := Lib.hid (((HX.out.drewN 1).far (b := gy) (k := 1 + κ) H3.out.2.2.1 (.int .i64 (-A (1 + κ)))).far (b := gy) (k := 4 + κ) H3.out.2.2.1 (.int .i64 (-A (4 + κ))))
                    have OB5 := Lib.hid (((below_drw HB6.out 1).setCell (p := ⟨gy, 1 + κ, none⟩) H3.out.2.2.2.2.1 (.int .i64 (-A (1 + κ)))).setCell (p := ⟨gy, 4 + κ, none⟩) H3.out.2.2.2.2.1 (.int .i64 (-A (4 + κ))))
                    obtain ⟨x, hx⟩ : ∃ x, A (1 + κ) = x := ⟨_, rfl⟩
                    obtain ⟨p, hp⟩ : ∃ p, A (4 + κ) = p := ⟨_, rfl⟩
                    have HXP := Lib.hid (And.intro hx hp)
                    rw [hx] at cx hox OY5 OX5 OB5
                    rw [hp] at cp hop OY5 OX5 OB5
                    unfold okX at hox
                    unfold okP at hop
                    have w4 : IntKind.i64.wrap (-x) = -x := IntWalk.i64_in _ (by omega)
                    have w5 : wrap64 (-x) = -x := IntWalk.wrap64_in _ (by omega)
                    have w6 : IntKind.i64.wrap (-p) = -p := IntWalk.i64_in _ (by omega)
                    have w7 : wrap64 (-p) = -p := IntWalk.wrap64_in _ (by omega)
                    clear hx hp hox hop
                    go_wp2
                    go_region
                    go_wp2_with fail
                    clear cx cp fx fp w4 w5 w6 w7
                    revert OY5 OX5 OB5
                    show Hid (Below wC.heap.size wC ((wr.setCell ⟨gy, 1 + κ, none⟩ (.int .i64 (-x))).setCell ⟨gy, 4 + κ, none⟩ (.int .i64 (-p))).drew) → Hid (Own ((wr.setCell ⟨gy, 1 + κ, none⟩ (.int .i64 (-x))).setCell ⟨gy, 4 + κ, none⟩ (.int .i64 (-p))).drew _ _ _ _) → Hid (Own ((wr.setCell ⟨gy, 1 + κ, none⟩ (.int .i64 (-x))).setCell ⟨gy, 4 + κ, none⟩ (.int .i64 (-p))).drew _ _ _ _) → _
                    generalize ((wr.setCell ⟨gy, 1 + κ, none⟩ (.int .i64 (-x))).setCell ⟨gy, 4 + κ, none⟩ (.int .i64 (-p))).drew = w5x
                    intro OB5 OX5 OY5
                    obtain ⟨g3, o3, eq3, q3⟩ := M3.out.cell hjn
                    cases eq3
                    obtain ⟨c0, c1, c2, c3, c4, c5, c6⟩ := (q3.below OB5.out (by omega)).seven hjn
                    have HTC : Hid (∀ t, t < 7 → (runR gw l2 (turS κ S) M).2 (j * 7 + t) = turA κ A t) := Lib.hid (fun t ht => by rw [turA_cell hkl TR.out hjn ht, ← HAE.out])
                    have HUA : Hid (∀ t, t < 7 → upd (upd A (1 + κ) (-x)) (4 + κ) (-p) t = turA κ A t) := Lib.hid (fun t _ => by unfold turA; rw [HXP.out.1, HXP.out.2])
                    have ty := fun t ht => OY5.out.lies t (by omega)
                    have y0' := ty 0 (by omega)
                    have y1' := ty 1 (by omega)
                    have y2' := ty 2 (by omega)
                    have y3' := ty 3 (by omega)
                    have y4' := ty 4 (by omega)
                    have y5' := ty 5 (by omega)
                    have y6' := ty 6 (by omega)
                    rw [HUA.out 0 (by omega), Nat.zero_add] at y0'
                    rw [HUA.out 1 (by omega), Nat.zero_add] at y1'
                    rw [HUA.out 2 (by omega), Nat.zero_add] at y2'
                    rw [HUA.out 3 (by omega), Nat.zero_add] at y3'
                    rw [HUA.out 4 (by omega), Nat.zero_add] at y4'
                    rw [HUA.out 5 (by omega), Nat.zero_add] at y5'
                    rw [HUA.out 6 (by omega), Nat.zero_add] at y6'
                    rw [show (runR gw l2 (turS κ S) M).2 (j * 7) = turA κ A 0 from HTC.out 0 (by omega)] at c0
                    rw [HTC.out 1 (by omega)] at c1
                    rw [HTC.out 2 (by omega)] at c2
                    rw [HTC.out 3 (by omega)] at c3
                    rw [HTC.out 4 (by omega)] at c4
                    rw [HTC.out 5 (by omega)] at c5
                    rw [HTC.out 6 (by omega)] at c6
                    clear q3 ty
                    generalize turA κ A 0 = r0 at *
                    generalize turA κ A 1 = r1 at *
                    generalize turA κ A 2 = r2 at *
                    generalize turA κ A 3 = r3 at *
                    generalize turA κ A 4 = r4 at *
                    generalize turA κ A 5 = r5 at *
                    generalize turA κ A 6 = r6 at *
                    have f1 := fun u => run_eq3_same r1 r2 r3 u
                    have f2 := fun u => run_eq3_same r4 r5 r6 u
                    obtain ⟨g2, o2, eq2, q2⟩ := M2.out.cell hjn
                    cases eq2
                    obtain ⟨b0, b1, b2, b3, b4, b5, b6⟩ := (q2.below OB5.out (by omega)).seven hjn
                    have HTB : Hid (∀ t, t < 7 → (runR gw l2 (movS (three y0 y1 y2) S) M).2 (j * 7 + t) = movS (three y0 y1 y2) A t) := Lib.hid (fun t ht => by rw [movA_cell MV.out hjn ht, ← HAE.out])
                    have HUB : Hid (∀ t, t < 7 → mix (1 + 3) (movS (three y0 y1 y2) A) A t = movS (three y0 y1 y2) A t) := Lib.hid (fun t ht => (one_end _ _ t ht).symm)
                    have tx := fun t ht => OX5.out.lies t (by omega)
                    have x0' := tx 0 (by omega)
                    have x1' := tx 1 (by omega)
                    have x2' := tx 2 (by omega)
                    have x3' := tx 3 (by omega)
                    have x4' := tx 4 (by omega)
                    have x5' := tx 5 (by omega)
                    have x6' := tx 6 (by omega)
                    rw [HUB.out 0 (by omega), Nat.zero_add] at x0'
                    rw [HUB.out 1 (by omega), Nat.zero_add] at x1'
                    rw [HUB.out 2 (by omega), Nat.zero_add] at x2'
                    rw [HUB.out 3 (by omega), Nat.zero_add] at x3'
                    rw [HUB.out 4 (by omega), Nat.zero_add] at x4'
                    rw [HUB.out 5 (by omega), Nat.zero_add] at x5'
                    rw [HUB.out 6 (by omega), Nat.zero_add] at x6'
                    rw [show (runR gw l2 (movS (three y0 y1 y2) S) M).2 (j * 7) = movS (three y0 y1 y2) A 0 from HTB.out 0 (by omega)] at b0
                    rw [HTB.out 1 (by omega)] at b1
                    rw [HTB.out 2 (by omega)] at b2
                    rw [HTB.out 3 (by omega)] at b3
                    rw [HTB.out 4 (by omega)] at b4
                    rw [HTB.out 5 (by omega)] at b5
                    rw [HTB.out 6 (by omega)] at b6
                    clear q2 tx
                    generalize movS (three y0 y1 y2) A 0 = s0 at *
                    generalize movS (three y0 y1 y2) A 1 = s1 at *
                    generalize movS (three y0 y1 y2) A 2 = s2 at *
                    generalize movS (three y0 y1 y2) A 3 = s3 at *
                    generalize movS (three y0 y1 y2) A 4 = s4 at *
                    generalize movS (three y0 y1 y2) A 5 = s5 at *
                    generalize movS (three y0 y1 y2) A 6 = s6 at *
                    have f3 := fun u => run_eq3_same s1 s2 s3 u
                    have f4 := fun u => run_eq3_same s4 s5 s6 u
                    go_wp2_with fail
                    go_quiet (fail)
                    go_wp2
                    go_roundw
                    case rel => exact ⟨j + 1, by omega, by go_num, below_drw OB5.out _⟩
                    case measure => first | (simp [intOf]; done) | (simp [intOf]; omega)
            · have hjn2 : j = l2 := by omega
              subst hjn2
              go_wp2
              go_ret
              exact ⟨rfl, BC.out.trans (HB5.out.mono BC.out.size)⟩
        · have hne : (E2 == 0) = false := by rw [beq_eq_false_iff_ne]; exact e2
          clear e2
          go_wp2_with fail
          go_loopw [22] (fun vi wr => ∃ j : Nat, j ≤ l3 ∧ vi = .int .i64 j ∧ Below wC.heap.size wC wr) (fun vi _ => l3 - (intOf vi).toNat)
          case atStart => exact ⟨0, Nat.zero_le _, rfl, Below.refl _ _⟩
          case round =>
            obtain ⟨j, hj, rfl, hb⟩ := hrel
            have HB5 := Lib.hid hb
            clear hb
            by_cases hjn : j < l3
            · obtain ⟨g1, o1, eq1, q1⟩ := M1.out.cell hjn
              cases eq1
              have hg1 := q1.lt (by omega)
              obtain ⟨a0, a1, a2, a3, a4, a5, a6⟩ := (q1.below HB5.out (by omega)).seven hjn
              have hg1r : g1 < wr.heap.size := Nat.lt_of_lt_of_le hg1 HB5.out.size
              clear q1
              obtain ⟨wo, rfl⟩ : ∃ wo : World, wo = wr := ⟨_, rfl⟩
              go_wp2_with fail
              go_region
              all_goals go_wp2_with fail
              · have H2 := two_mass wo (fun e => (runR gw l3 S M).2 (j * 7 + e))
                have H3 := And.intro H2.1 (And.intro H2.2.1 (And.intro (show wo.heap.size ≠ wo.heap.size + 1 by omega) (And.intro (show wC.heap.size ≤ wo.heap.size from HB5.out.size) (And.intro (show wC.heap.size ≤ wo.heap.size + 1 from Nat.le_succ_of_le HB5.out.size) (HB5.out.trans (H2.2.2.mono HB5.out.size))))))
                clear H2 a0 a1 a2 a3 a4 a5 a6 hg1r
                revert H3
                show Own ((wo.alloc (.cells #[.int .i64 ((runR gw l3 S M).2 (j * 7)), .int .i64 ((runR gw l3 S M).2 (j * 7 + 1)), .int .i64 ((runR gw l3 S M).2 (j * 7 + 2)), .int .i64 ((runR gw l3 S M).2 (j * 7 + 3)), .int .i64 ((runR gw l3 S M).2 (j * 7 + 4)), .int .i64 ((runR gw l3 S M).2 (j * 7 + 5)), .int .i64 ((runR gw l3 S M).2 (j * 7 + 6))] 40)).alloc (.cells #[.int .i64 ((runR gw l3 S M).2 (j * 7)), .int .i64 ((runR gw l3 S M).2 (j * 7 + 1)), .int .i64 ((runR gw l3 S M).2 (j * 7 + 2)), .int .i64 ((runR gw l3 S M).2 (j * 7 + 3)), .int .i64 ((runR gw l3 S M).2 (j * 7 + 4)), .int .i64 ((runR gw l3 S M).2 (j * 7 + 5)), .int .i64 ((runR gw l3 S M).2 (j * 7 + 6))] 40)).drew _ 1 1 _ ∧ Own ((wo.alloc (.cells #[.int .i64 ((runR gw l3 S M).2 (j * 7)), .int .i64 ((runR gw l3 S M).2 (j * 7 + 1)), .int .i64 ((runR gw l3 S M).2 (j * 7 + 2)), .int .i64 ((runR gw l3 S M).2 (j * 7 + 3)), .int .i64 ((runR gw l3 S M).2 (j * 7 + 4)), .int .i64 ((runR gw l3 S M).2 (j * 7 + 5)), .int .i64 ((runR gw l3 S M).2 (j * 7 + 6))] 40)).alloc (.cells #[.int .i64 ((runR gw l3 S M).2 (j * 7)), .int .i64 ((runR gw l3 S M).2 (j * 7 + 1)), .int .i64 ((runR gw l3 S M).2 (j * 7 + 2)), .int .i64 ((runR gw l3 S M).2 (j * 7 + 3)), .int .i64 ((runR gw l3 S M).2 (j * 7 + 4)), .int .i64 ((runR gw l3 S M).2 (j * 7 + 5)), .int .i64 ((runR gw l3 S M).2 (j * 7 + 6))] 40)).drew _ 1 1 _ ∧ _ ∧ _ ∧ _ ∧ Below wC.heap.size wC ((wo.alloc (.cells #[.int .i64 ((runR gw l3 S M).2 (j * 7)), .int .i64 ((runR gw l3 S M).2 (j * 7 + 1)), .int .i64 ((runR gw l3 S M).2 (j * 7 + 2)), .int .i64 ((runR gw l3 S M).2 (j * 7 + 3)), .int .i64 ((runR gw l3 S M).2 (j * 7 + 4)), .int .i64 ((runR gw l3 S M).2 (j * 7 + 5)), .int .i64 ((runR gw l3 S M).2 (j * 7 + 6))] 40)).alloc (.cells #[.int .i64 ((runR gw l3 S M).2 (j * 7)), .int .i64 ((runR gw l3 S M).2 (j * 7 + 1)), .int .i64 ((runR gw l3 S M).2 (j * 7 + 2)), .int .i64 ((runR gw l3 S M).2 (j * 7 + 3)), .int .i64 ((runR gw l3 S M).2 (j * 7 + 4)), .int .i64 ((runR gw l3 S M).2 (j * 7 + 5)), .int .i64 ((runR gw l3 S M).2 (j * 7 + 6))] 40)).drew → _
                generalize (World.alloc (World.alloc wo _) _).drew = W2
                generalize wo.heap.size + 1 = gy
                generalize wo.heap.size = gx
                intro H3
                replace H3 := Lib.hid H3
                obtain ⟨A, hA⟩ : ∃ A, (fun e => (runR gw l3 S M).2 (j * 7 + e)) = A := ⟨_, rfl⟩
                rw [hA] at H3
                have HAE := Lib.hid hA
                have HAV : Hid (∀ t, A t = (runR gw l3 S M).2 (j * 7 + t)) := Lib.hid (fun t => by rw [← hA])
                have HOKJ := Lib.hid (HOK1.out j hjn)
                have HBY := Lib.hid (HBD.out (by omega))
                clear hA
                go_loopw [25] (fun vk wr => ∃ k : Nat, k ≤ 3 ∧ vk = .int .i64 k ∧ Own wr gx 1 1 (mix (1 + k) (movS (three y0 y1 y2) A) A) ∧ Own wr gy 1 1 A ∧ Below wC.heap.size wC wr) (fun vk _ => 3 - (intOf vk).toNat)
                case atStart => exact ⟨0, Nat.zero_le _, rfl, H3.out.1.congr (fun e _ => one_start _ _ _), H3.out.2.1, H3.out.2.2.2.2.2⟩
                case round =>
                  obtain ⟨k, hk, rfl, hx, hy, hb⟩ := hrel
                  have HX := Lib.hid hx
                  have HY6 := Lib.hid hy
                  have HB6 := Lib.hid hb
                  clear hx hy hb
                  by_cases hk3 : k < 3
                  · have cx := HX.out.lies (1 + k) (by omega)
                    have fx := HX.out.free (1 + k)
                    rw [mix_ge (by omega), Nat.zero_add] at cx
                    have cy := (By3.out.below HB6.out).cell hk3
                    have hox := (HOKJ.out.2 k hk3).1
                    rw [Nat.add_assoc, ← HAV.out (1 + k)] at hox
                    have hyb : bnd (three y0 y1 y2 k) := by
                      unfold three
                      split
                      · exact HBY.out.1
                      · split
                        · exact HBY.out.2.1
                        · exact HBY.out.2.2
                    have HUP : Hid (upd (mix (1 + k) (movS (three y0 y1 y2) A) A) (1 + k) (movS (three y0 y1 y2) A (1 + k)) = mix (1 + (k + 1)) (movS (three y0 y1 y2) A) A) := Lib.hid upd_mix
                    have hmv : movS (three y0 y1 y2) A (1 + k) = A (1 + k) + three y0 y1 y2 k := by unfold movS; rw [if_pos (by omega), show (1 + k) % 7 - 1 = k from by omega]
                    rw [hmv] at HUP
                    obtain ⟨x, hx⟩ : ∃ x, A (1 + k) = x := ⟨_, rfl⟩
                    obtain ⟨y, hy⟩ : ∃ y, three y0 y1 y2 k = y := ⟨_, rfl⟩
                    rw [hx] at cx hox HUP
                    rw [hy] at cy hyb HUP
                    unfold okX at hox
                    unfold bnd at hyb
                    have w4 : IntKind.i64.wrap (x + y) = x + y := IntWalk.i64_in _ (by omega)
                    have w5 : wrap64 (x + y) = x + y := IntWalk.wrap64_in _ (by omega)
                    clear hx hy hmv hox hyb
                    go_wp2
                    go_still_tail 10, (by kernel_rfl)
                    change wpList _ _ _ _ _ wr.drew
                    go_wp2
                    go_roundw
                    case rel => exact ⟨k + 1, by omega, by go_num, by rw [← HUP.out]; exact (HX.out.drewN 1).set _ _, (HY6.out.drewN 1).far (fun e => H3.out.2.2.1 e.symm) _, (below_drw HB6.out 1).setCell H3.out.2.2.2.1 _⟩
                    case measure => first | (simp [intOf]; done) | (simp [intOf]; omega)
                  · have hk4 : k = 3 := by omega
                    subst hk4
                    have cx := HY6.out.lies (1 + κ) (by omega)
                    have cp := HY6.out.lies (4 + κ) (by omega)
                    have fx := HY6.out.free (1 + κ)
                    have fp := HY6.out.free (4 + κ)
                    rw [Nat.zero_add] at cx cp
                    have hox := (HOKJ.out.2 κ hkl)
                    rw [Nat.add_assoc, Nat.add_assoc, ← HAV.out (1 + κ), ← HAV.out (4 + κ)] at hox
                    obtain ⟨hox, hop⟩ := hox
                    have OY5 := Lib.hid (((HY6.out.drewN 1).set (1 + κ) (-A (1 + κ))).set (4 + κ) (-A (4 + κ)))
                    have OX5 := Lib.hid (((HX.out.drewN 1).far (b := gy) (k := 1 + κ) H3.out.2.2.1 (.int .i64 (-A (1 + κ)))).far (b := gy) (k := 4 + κ) H3.out.2.2.1 (.int .i64 (-A (4 + κ))))
                    have OB5 := Lib.hid (((below_drw HB6.out 1).setCell (p := ⟨gy, 1 + κ, none⟩) H3.out.2.2.2.2.1 (.int .i64 (-A (1 + κ)))).setCell (p := ⟨gy, 4 + κ, none⟩) H3.out.2.2.2.2.1 (.int .i64 (-A (4 + κ))))
                    obtain ⟨x, hx⟩ : ∃ x, A (1 + κ) = x := ⟨_, rfl⟩
                    obtain ⟨p, hp⟩ : ∃ p, A (4 + κ) = p := ⟨_, rfl⟩
                    have HXP := Lib.hid (And.intro hx hp)
                    rw [hx] at cx hox OY5 OX5 OB5
                    rw [hp] at cp hop OY5 OX5 OB5
                    unfold okX at hox
                    unfold okP at hop
                    have w4 : IntKind.i64.wrap (-x) = -x := IntWalk.i64_in _ (by omega)
                    have w5 : wrap64 (-x) = -x := IntWalk.wrap64_in _ (by omega)
                    have w6 : IntKind.i64.wrap (-p) = -p := IntWalk.i64_in _ (by omega)
                    have w7 : wrap64 (-p) = -p := IntWalk.wrap64_in _ (by omega)
                    clear hx hp hox hop
                    go_wp2
                    go_region
                    go_wp2_with fail
                    clear cx cp fx fp w4 w5 w6 w7
                    revert OY5 OX5 OB5
                    show Hid (Below wC.heap.size wC ((wr.setCell ⟨gy, 1 + κ, none⟩ (.int .i64 (-x))).setCell ⟨gy, 4 + κ, none⟩ (.int .i64 (-p))).drew) → Hid (Own ((wr.setCell ⟨gy, 1 + κ, none⟩ (.int .i64 (-x))).setCell ⟨gy, 4 + κ, none⟩ (.int .i64 (-p))).drew _ _ _ _) → Hid (Own ((wr.setCell ⟨gy, 1 + κ, none⟩ (.int .i64 (-x))).setCell ⟨gy, 4 + κ, none⟩ (.int .i64 (-p))).drew _ _ _ _) → _
                    generalize ((wr.setCell ⟨gy, 1 + κ, none⟩ (.int .i64 (-x))).setCell ⟨gy, 4 + κ, none⟩ (.int .i64 (-p))).drew = w5x
                    intro OB5 OX5 OY5
                    obtain ⟨g3, o3, eq3, q3⟩ := M3.out.cell hjn
                    cases eq3
                    obtain ⟨c0, c1, c2, c3, c4, c5, c6⟩ := (q3.below OB5.out (by omega)).seven hjn
                    have HTC : Hid (∀ t, t < 7 → (runR gw l3 (turS κ S) M).2 (j * 7 + t) = turA κ A t) := Lib.hid (fun t ht => by rw [turA_cell hkl TR.out hjn ht, ← HAE.out])
                    have HUA : Hid (∀ t, t < 7 → upd (upd A (1 + κ) (-x)) (4 + κ) (-p) t = turA κ A t) := Lib.hid (fun t _ => by unfold turA; rw [HXP.out.1, HXP.out.2])
                    have ty := fun t ht => OY5.out.lies t (by omega)
                    have y0' := ty 0 (by omega)
                    have y1' := ty 1 (by omega)
                    have y2' := ty 2 (by omega)
                    have y3' := ty 3 (by omega)
                    have y4' := ty 4 (by omega)
                    have y5' := ty 5 (by omega)
                    have y6' := ty 6 (by omega)
                    rw [HUA.out 0 (by omega), Nat.zero_add] at y0'
                    rw [HUA.out 1 (by omega), Nat.zero_add] at y1'
                    rw [HUA.out 2 (by omega), Nat.zero_add] at y2'
                    rw [HUA.out 3 (by omega), Nat.zero_add] at y3'
                    rw [HUA.out 4 (by omega), Nat.zero_add] at y4'
                    rw [HUA.out 5 (by omega), Nat.zero_add] at y5'
                    rw [HUA.out 6 (by omega), Nat.zero_add] at y6'
                    rw [show (runR gw l3 (turS κ S) M).2 (j * 7) = turA κ A 0 from HTC.out 0 (by omega)] at c0
                    rw [HTC.out 1 (by omega)] at c1
                    rw [HTC.out 2 (by omega)] at c2
                    rw [HTC.out 3 (by omega)] at c3
                    rw [HTC.out 4 (by omega)] at c4
                    rw [HTC.out 5 (by omega)] at c5
                    rw [HTC.out 6 (by omega)] at c6
                    clear q3 ty
                    generalize turA κ A 0 = r0 at *
                    generalize turA κ A 1 = r1 at *
                    generalize turA κ A 2 = r2 at *
                    generalize turA κ A 3 = r3 at *
                    generalize turA κ A 4 = r4 at *
                    generalize turA κ A 5 = r5 at *
                    generalize turA κ A 6 = r6 at *
                    have f1 := fun u => run_eq3_same r1 r2 r3 u
                    have f2 := fun u => run_eq3_same r4 r5 r6 u
                    go_wp2_with fail
                    go_quiet (fail)
                    go_wp2
                    go_roundw
                    case rel => exact ⟨j + 1, by omega, by go_num, below_drw OB5.out _⟩
                    case measure => first | (simp [intOf]; done) | (simp [intOf]; omega)
              · have H2 := two_mass wo (fun e => (runR gw l3 S M).2 (j * 7 + e))
                have H3 := And.intro H2.2.1 (And.intro H2.1 (And.intro (show wo.heap.size + 1 ≠ wo.heap.size by omega) (And.intro (show wC.heap.size ≤ wo.heap.size + 1 from Nat.le_succ_of_le HB5.out.size) (And.intro (show wC.heap.size ≤ wo.heap.size from HB5.out.size) (HB5.out.trans (H2.2.2.mono HB5.out.size))))))
                clear H2 a0 a1 a2 a3 a4 a5 a6 hg1r
                revert H3
                show Own ((wo.alloc (.cells #[.int .i64 ((runR gw l3 S M).2 (j * 7)), .int .i64 ((runR gw l3 S M).2 (j * 7 + 1)), .int .i64 ((runR gw l3 S M).2 (j * 7 + 2)), .int .i64 ((runR gw l3 S M).2 (j * 7 + 3)), .int .i64 ((runR gw l3 S M).2 (j * 7 + 4)), .int .i64 ((runR gw l3 S M).2 (j * 7 + 5)), .int .i64 ((runR gw l3 S M).2 (j * 7 + 6))] 40)).alloc (.cells #[.int .i64 ((runR gw l3 S M).2 (j * 7)), .int .i64 ((runR gw l3 S M).2 (j * 7 + 1)), .int .i64 ((runR gw l3 S M).2 (j * 7 + 2)), .int .i64 ((runR gw l3 S M).2 (j * 7 + 3)), .int .i64 ((runR gw l3 S M).2 (j * 7 + 4)), .int .i64 ((runR gw l3 S M).2 (j * 7 + 5)), .int .i64 ((runR gw l3 S M).2 (j * 7 + 6))] 40)).drew _ 1 1 _ ∧ Own ((wo.alloc (.cells #[.int .i64 ((runR gw l3 S M).2 (j * 7)), .int .i64 ((runR gw l3 S M).2 (j * 7 + 1)), .int .i64 ((runR gw l3 S M).2 (j * 7 + 2)), .int .i64 ((runR gw l3 S M).2 (j * 7 + 3)), .int .i64 ((runR gw l3 S M).2 (j * 7 + 4)), .int .i64 ((runR gw l3 S M).2 (j * 7 + 5)), .int .i64 ((runR gw l3 S M).2 (j * 7 + 6))] 40)).alloc (.cells #[.int .i64 ((runR gw l3 S M).2 (j * 7)), .int .i64 ((runR gw l3 S M).2 (j * 7 + 1)), .int .i64 ((runR gw l3 S M).2 (j * 7 + 2)), .int .i64 ((runR gw l3 S M).2 (j * 7 + 3)), .int .i64 ((runR gw l3 S M).2 (j * 7 + 4)), .int .i64 ((runR gw l3 S M).2 (j * 7 + 5)), .int .i64 ((runR gw l3 S M).2 (j * 7 + 6))] 40)).drew _ 1 1 _ ∧ _ ∧ _ ∧ _ ∧ Below wC.heap.size wC ((wo.alloc (.cells #[.int .i64 ((runR gw l3 S M).2 (j * 7)), .int .i64 ((runR gw l3 S M).2 (j * 7 + 1)), .int .i64 ((runR gw l3 S M).2 (j * 7 + 2)), .int .i64 ((runR gw l3 S M).2 (j * 7 + 3)), .int .i64 ((runR gw l3 S M).2 (j * 7 + 4)), .int .i64 ((runR gw l3 S M).2 (j * 7 + 5)), .int .i64 ((runR gw l3 S M).2 (j * 7 + 6))] 40)).alloc (.cells #[.int .i64 ((runR gw l3 S M).2 (j * 7)), .int .i64 ((runR gw l3 S M).2 (j * 7 + 1)), .int .i64 ((runR gw l3 S M).2 (j * 7 + 2)), .int .i64 ((runR gw l3 S M).2 (j * 7 + 3)), .int .i64 ((runR gw l3 S M).2 (j * 7 + 4)), .int .i64 ((runR gw l3 S M).2 (j * 7 + 5)), .int .i64 ((runR gw l3 S M).2 (j * 7 + 6))] 40)).drew → _
                generalize (World.alloc (World.alloc wo _) _).drew = W2
                generalize wo.heap.size + 1 = gx
                generalize wo.heap.size = gy
                intro H3
                replace H3 := Lib.hid H3
                obtain ⟨A, hA⟩ : ∃ A, (fun e => (runR gw l3 S M).2 (j * 7 + e)) = A := ⟨_, rfl⟩
                rw [hA] at H3
                have HAE := Lib.hid hA
                have HAV : Hid (∀ t, A t = (runR gw l3 S M).2 (j * 7 + t)) := Lib.hid (fun t => by rw [← hA])
                have HOKJ := Lib.hid (HOK1.out j hjn)
                have HBY := Lib.hid (HBD.out (by omega))
                clear hA
                go_loopw [25] (fun vk wr => ∃ k : Nat, k ≤ 3 ∧ vk = .int .i64 k ∧ Own wr gx 1 1 (mix (1 + k) (movS (three y0 y1 y2) A) A) ∧ Own wr gy 1 1 A ∧ Below wC.heap.size wC wr) (fun vk _ => 3 - (intOf vk).toNat)
                case atStart => exact ⟨0, Nat.zero_le _, rfl, H3.out.1.congr (fun e _ => one_start _ _ _), H3.out.2.1, H3.out.2.2.2.2.2⟩
                case round =>
                  obtain ⟨k, hk, rfl, hx, hy, hb⟩ := hrel
                  have HX := Lib.hid hx
                  have HY6 := Lib.hid hy
                  have HB6 := Lib.hid hb
                  clear hx hy hb
                  by_cases hk3 : k < 3
                  · have cx := HX.out.lies (1 + k) (by omega)
                    have fx := HX.out.free (1 + k)
                    rw [mix_ge (by omega), Nat.zero_add] at cx
                    have cy := (By3.out.below HB6.out).cell hk3
                    have hox := (HOKJ.out.2 k hk3).1
                    rw [Nat.add_assoc, ← HAV.out (1 + k)] at hox
                    have hyb : bnd (three y0 y1 y2 k) := by
                      unfold three
                      split
                      · exact HBY.out.1
                      · split
                        · exact HBY.out.2.1
                        · exact HBY.out.2.2
                    have HUP : Hid (upd (mix (1 + k) (movS (three y0 y1 y2) A) A) (1 + k) (movS (three y0 y1 y2) A (1 + k)) = mix (1 + (k + 1)) (movS (three y0 y1 y2) A) A) := Lib.hid upd_mix
                    have hmv : movS (three y0 y1 y2) A (1 + k) = A (1 + k) + three y0 y1 y2 k := by unfold movS; rw [if_pos (by omega), show (1 + k) % 7 - 1 = k from by omega]
                    rw [hmv] at HUP
                    obtain ⟨x, hx⟩ : ∃ x, A (1 + k) = x := ⟨_, rfl⟩
                    obtain ⟨y, hy⟩ : ∃ y, three y0 y1 y2 k = y := ⟨_, rfl⟩
                    rw [hx] at cx hox HUP
                    rw [hy] at cy hyb HUP
                    unfold okX at hox
                    unfold bnd at hyb
                    have w4 : IntKind.i64.wrap (x + y) = x + y := IntWalk.i64_in _ (by omega)
                    have w5 : wrap64 (x + y) = x + y := IntWalk.wrap64_in _ (by omega)
                    clear hx hy hmv hox hyb
                    go_wp2
                    go_still_tail 10, (by kernel_rfl)
                    change wpList _ _ _ _ _ wr.drew
                    go_wp2
                    go_roundw
                    case rel => exact ⟨k + 1, by omega, by go_num, by rw [← HUP.out]; exact (HX.out.drewN 1).set _ _, (HY6.out.drewN 1).far (fun e => H3.out.2.2.1 e.symm) _, (below_drw HB6.out 1).setCell H3.out.2.2.2.1 _⟩
                    case measure => first | (simp [intOf]; done) | (simp [intOf]; omega)
                  · have hk4 : k = 3 := by omega
                    subst hk4
                    have cx := HY6.out.lies (1 + κ) (by omega)
                    have cp := HY6.out.lies (4 + κ) (by omega)
                    have fx := HY6.out.free (1 + κ)
                    have fp := HY6.out.free (4 + κ)
                    rw [Nat.zero_add] at cx cp
                    have hox := (HOKJ.out.2 κ hkl)
                    rw [Nat.add_assoc, Nat.add_assoc, ← HAV.out (1 + κ), ← HAV.out (4 + κ)] at hox
                    obtain ⟨hox, hop⟩ := hox
                    have OY5 := Lib.hid (((HY6.out.drewN 1).set (1 + κ) (-A (1 + κ))).set (4 + κ) (-A (4 + κ)))
                    have OX5 := Lib.hid (((HX.out.drewN 1).far (b := gy) (k := 1 + κ) H3.out.2.2.1 (.int .i64 (-A (1 + κ)))).far (b := gy) (k := 4 + κ) H3.out.2.2.1 (.int .i64 (-A (4 + κ))))
                    have OB5 := Lib.hid (((below_drw HB6.out 1).setCell (p := ⟨gy, 1 + κ, none⟩) H3.out.2.2.2.2.1 (.int .i64 (-A (1 + κ)))).setCell (p := ⟨gy, 4 + κ, none⟩) H3.out.2.2.2.2.1 (.int .i64 (-A (4 + κ))))
                    obtain ⟨x, hx⟩ : ∃ x, A (1 + κ) = x := ⟨_, rfl⟩
                    obtain ⟨p, hp⟩ : ∃ p, A (4 + κ) = p := ⟨_, rfl⟩
                    have HXP := Lib.hid (And.intro hx hp)
                    rw [hx] at cx hox OY5 OX5 OB5
                    rw [hp] at cp hop OY5 OX5 OB5
                    unfold okX at hox
                    unfold okP at hop
                    have w4 : IntKind.i64.wrap (-x) = -x := IntWalk.i64_in _ (by omega)
                    have w5 : wrap64 (-x) = -x := IntWalk.wrap64_in _ (by omega)
                    have w6 : IntKind.i64.wrap (-p) = -p := IntWalk.i64_in _ (by omega)
                    have w7 : wrap64 (-p) = -p := IntWalk.wrap64_in _ (by omega)
                    clear hx hp hox hop
                    go_wp2
                    go_region
                    go_wp2_with fail
                    clear cx cp fx fp w4 w5 w6 w7
                    revert OY5 OX5 OB5
                    show Hid (Below wC.heap.size wC ((wr.setCell ⟨gy, 1 + κ, none⟩ (.int .i64 (-x))).setCell ⟨gy, 4 + κ, none⟩ (.int .i64 (-p))).drew) → Hid (Own ((wr.setCell ⟨gy, 1 + κ, none⟩ (.int .i64 (-x))).setCell ⟨gy, 4 + κ, none⟩ (.int .i64 (-p))).drew _ _ _ _) → Hid (Own ((wr.setCell ⟨gy, 1 + κ, none⟩ (.int .i64 (-x))).setCell ⟨gy, 4 + κ, none⟩ (.int .i64 (-p))).drew _ _ _ _) → _
                    generalize ((wr.setCell ⟨gy, 1 + κ, none⟩ (.int .i64 (-x))).setCell ⟨gy, 4 + κ, none⟩ (.int .i64 (-p))).drew = w5x
                    intro OB5 OX5 OY5
                    obtain ⟨g3, o3, eq3, q3⟩ := M3.out.cell hjn
                    cases eq3
                    obtain ⟨c0, c1, c2, c3, c4, c5, c6⟩ := (q3.below OB5.out (by omega)).seven hjn
                    have HTC : Hid (∀ t, t < 7 → (runR gw l3 (turS κ S) M).2 (j * 7 + t) = turA κ A t) := Lib.hid (fun t ht => by rw [turA_cell hkl TR.out hjn ht, ← HAE.out])
                    have HUA : Hid (∀ t, t < 7 → upd (upd A (1 + κ) (-x)) (4 + κ) (-p) t = turA κ A t) := Lib.hid (fun t _ => by unfold turA; rw [HXP.out.1, HXP.out.2])
                    have ty := fun t ht => OY5.out.lies t (by omega)
                    have y0' := ty 0 (by omega)
                    have y1' := ty 1 (by omega)
                    have y2' := ty 2 (by omega)
                    have y3' := ty 3 (by omega)
                    have y4' := ty 4 (by omega)
                    have y5' := ty 5 (by omega)
                    have y6' := ty 6 (by omega)
                    rw [HUA.out 0 (by omega), Nat.zero_add] at y0'
                    rw [HUA.out 1 (by omega), Nat.zero_add] at y1'
                    rw [HUA.out 2 (by omega), Nat.zero_add] at y2'
                    rw [HUA.out 3 (by omega), Nat.zero_add] at y3'
                    rw [HUA.out 4 (by omega), Nat.zero_add] at y4'
                    rw [HUA.out 5 (by omega), Nat.zero_add] at y5'
                    rw [HUA.out 6 (by omega), Nat.zero_add] at y6'
                    rw [show (runR gw l3 (turS κ S) M).2 (j * 7) = turA κ A 0 from HTC.out 0 (by omega)] at c0
                    rw [HTC.out 1 (by omega)] at c1
                    rw [HTC.out 2 (by omega)] at c2
                    rw [HTC.out 3 (by omega)] at c3
                    rw [HTC.out 4 (by omega)] at c4
                    rw [HTC.out 5 (by omega)] at c5
                    rw [HTC.out 6 (by omega)] at c6
                    clear q3 ty
                    generalize turA κ A 0 = r0 at *
                    generalize turA κ A 1 = r1 at *
                    generalize turA κ A 2 = r2 at *
                    generalize turA κ A 3 = r3 at *
                    generalize turA κ A 4 = r4 at *
                    generalize turA κ A 5 = r5 at *
                    generalize turA κ A 6 = r6 at *
                    have f1 := fun u => run_eq3_same r1 r2 r3 u
                    have f2 := fun u => run_eq3_same r4 r5 r6 u
                    go_wp2_with fail
                    go_quiet (fail)
                    go_wp2
                    go_roundw
                    case rel => exact ⟨j + 1, by omega, by go_num, below_drw OB5.out _⟩
                    case measure => first | (simp [intOf]; done) | (simp [intOf]; omega)
            · have hjn2 : j = l3 := by omega
              subst hjn2
              go_wp2
              go_ret
              exact ⟨rfl, BC.out.trans (HB5.out.mono BC.out.size)⟩
      · have hne : (E1 != 0) = true := by rw [bne_iff_ne]; exact e1
        clear e1
        go_wp2
        go_ret
        exact ⟨rfl, BC.out⟩
end Go.Proofs.Ytjapohjfheielaa
