/- Walks: Sum, the program's and the reference's. Conditions: the masses lie in memory. -/
import Derived.Test.YtjapohjfheielaaC7
namespace Go.Proofs.Ytjapohjfheielaa
open Go.RowKit
attribute [local irreducible] chk

/-- three numbers in a block of the call's own -/
def Row3 (w : World) (g : Nat) (F : Nat → Int) : Prop := w.heap[g]? = some (.cells #[.int .i64 (F 0), .int .i64 (F 1), .int .i64 (F 2)] 26 (0, 0))
theorem Row3.cell {w : World} {g : Nat} {F : Nat → Int} (h : Row3 w g F) {k : Nat} (hk : k < 3) : w.cell? ⟨g, k, none⟩ = some (.int .i64 (F k)) := by
  rw [cell_of_row _ _ _ _ _ (0, 0) h]
  match k, hk with
  | 0, _ => rfl
  | 1, _ => rfl
  | 2, _ => rfl
theorem Row3.free {w : World} {g : Nat} {F : Nat → Int} (h : Row3 w g F) (k : Nat) : w.frozen? ⟨g, k, none⟩ = false := by
  have h' : w.heap[g]? = some (.cells #[.int .i64 (F 0), .int .i64 (F 1), .int .i64 (F 2)] 26 (0, 0)) := h
  simp [World.frozen?, h']
theorem Row3.set {w : World} {g : Nat} {F : Nat → Int} (h : Row3 w g F) {k : Nat} (hk : k < 3) (v : Int) : Row3 (w.setCell ⟨g, k, none⟩ (.int .i64 v)) g (fun c => if c = k then v else F c) := by
  have h' : w.heap[g]? = some (.cells #[.int .i64 (F 0), .int .i64 (F 1), .int .i64 (F 2)] 26 (0, 0)) := h
  unfold Row3
  simp only [World.setCell, Array.getElem?_modify, if_true, h', Option.map_some]
  match k, hk with
  | 0, _ => rfl
  | 1, _ => rfl
  | 2, _ => rfl
theorem Row3.far {w : World} {g b k : Nat} {F : Nat → Int} (h : Row3 w g F) (hne : g ≠ b) (v : Value) : Row3 (w.setCell ⟨b, k, none⟩ v) g F := by
  unfold Row3; rw [Below.heap_setCell _ _ _ _ hne]; exact h
theorem Row3.congr {w : World} {g : Nat} {F G : Nat → Int} (h : Row3 w g F) (he : ∀ c, c < 3 → G c = F c) : Row3 w g G := by
  unfold Row3; rw [he 0 (by omega), he 1 (by omega), he 2 (by omega)]; exact h
theorem Row3.drewN {w : World} {g : Nat} {F : Nat → Int} (h : Row3 w g F) (m : Nat) : Row3 (w.drewN m) g F := h
theorem totP_le {n : Nat} {S : Nat → Int} (hn : n ≤ 8) (hok : okAll n S) {i c : Nat} (hi : i ≤ n) (hc : c < 3) : (totP i S c).natAbs ≤ 8 * 1125899906842624 := by
  exact Nat.le_trans (sumTo_abs (B := 1125899906842624) (fun b hb => by
    have := ((hok b (by omega)).2 c hc).2
    unfold okP at this; omega)) (Nat.mul_le_mul_right _ (by omega))
/-- the sums so far -/
def sumAt (S : Nat → Int) (i k : Nat) : Nat → Int := fun c => totP i S c + (if c < k then S (i * 7 + 4 + c) else 0)
theorem sumAt_next (S : Nat → Int) (i k : Nat) (hk : k < 3) (c : Nat) : (if c = k then sumAt S i k k + S (i * 7 + 4 + k) else sumAt S i k c) = sumAt S i (k + 1) c := by
  unfold sumAt
  by_cases h : c = k
  · subst h; rw [if_pos rfl, if_neg (by omega), if_pos (by omega)]; omega
  · rw [if_neg h]
    by_cases h2 : c < k
    · rw [if_pos h2, if_pos (by omega)]
    · rw [if_neg h2, if_neg (by omega)]
theorem sumAt_row (S : Nat → Int) (i c : Nat) (hc : c < 3) : sumAt S (i + 1) 0 c = sumAt S i 3 c := by
  unfold sumAt
  rw [if_pos hc, if_neg (by omega)]
  show totP i S c + S (i * 7 + 4 + c) + 0 = _
  omega
theorem sumAt_end (S : Nat → Int) (i c : Nat) : sumAt S i 0 c = totP i S c := by unfold sumAt; rw [if_neg (by omega)]; omega

noncomputable def sumOf (n : Nat) (S : Nat → Int) (c : Nat) : Int := if chk n S = 0 then totP n S c else 0
theorem res2 {w : World} {fn : Func} {p q g : Nat} {F : Nat → Int} {E : Int} (h : fn.results = #[.cell p 26, .tmp q]) (tmps : Array Value) (hp : tmps.getD p undef = .pointer (some ⟨g, 0, none⟩)) (hq : tmps.getD q undef = .int .i64 E) (hr : Row3 w g F) :
    (results fn tmps).run Try.prog w = .ok (.tuple #[.agg #[.int .i64 (F 0), .int .i64 (F 1), .int .i64 (F 2)], .int .i64 E]) w := by
  have hp' : tmps[p]?.getD undef = .pointer (some ⟨g, 0, none⟩) := by simpa using hp
  have hq' : tmps[q]?.getD undef = .int .i64 E := by simpa using hq
  have hl := run_loadVar_row (P := Try.prog) w g 26 26 _ (0, 0) _ hr Try.underlying26 rfl (by kernel_rfl)
  simp [results, h, hp', hq', asAddr, hl]

set_option maxHeartbeats 2000000 in
theorem sumP_any (v : Value) (n : Nat) (S : Nat → Int) (w : World) (hv : MIn w v n S) (hn : n ≤ 4398046511104) :
    Calls Try.prog 12 #[v] w fun e w' => e = .returned (.tuple #[.agg #[.int .i64 (sumOf n S 0), .int .i64 (sumOf n S 1), .int .i64 (sumOf n S 2)], .int .i64 (chk n S)]) ∧ Below w.heap.size w w' := by
  have HV := Lib.hid hv
  have HVA := Lib.hid (hv.below (((Below.refl w.heap.size w).alloc (Nat.le_refl _) (.cells #[.int .i64 0, .int .i64 0, .int .i64 0] 26)).alloc (by simp) (.cells #[.int .i64 0, .int .i64 0, .int .i64 0] 26)))
  have HB := Lib.hid (((Below.refl w.heap.size w).alloc (Nat.le_refl _) (.cells #[.int .i64 0, .int .i64 0, .int .i64 0] 26)).alloc (by simp) (.cells #[.int .i64 0, .int .i64 0, .int .i64 0] 26))
  obtain ⟨A, cap, rfl⟩ := hv.form
  clear hv
  have hck := checkP_any (.slice A n cap) n S _ HVA.out hn
  by_cases hz : chk n S = 0
  · have HCK := Lib.hid hz
    have H8 := Lib.hid (chk_zero.1 hz).1
    have HOK := Lib.hid (chk_zero.1 hz).2
    have hs0 : ∀ c, sumOf n S c = totP n S c := fun c => by unfold sumOf; rw [if_pos hz]
    rw [hz] at hck ⊢
    rw [hs0, hs0, hs0]
    clear hz hs0
    have HC := Lib.hid hck
    clear hck
    have HR0 : Hid (Row3 ((w.alloc (.cells #[.int .i64 0, .int .i64 0, .int .i64 0] 26)).alloc (.cells #[.int .i64 0, .int .i64 0, .int .i64 0] 26)) (w.heap.size + 1) (sumAt S 0 0)) := Lib.hid (by
      have h := heap_alloc2_new w (.cells #[.int .i64 0, .int .i64 0, .int .i64 0] 26) (.cells #[.int .i64 0, .int .i64 0, .int .i64 0] 26)
      exact h)
    have HR1 : Hid (Row3 ((w.alloc (.cells #[.int .i64 0, .int .i64 0, .int .i64 0] 26)).alloc (.cells #[.int .i64 0, .int .i64 0, .int .i64 0] 26)) w.heap.size (fun _ => 0)) := Lib.hid (by
      have h := heap_alloc2_old w (.cells #[.int .i64 0, .int .i64 0, .int .i64 0] 26) (.cells #[.int .i64 0, .int .i64 0, .int .i64 0] 26)
      exact h)
    go_enter Try.func12, Try.ntmps12
    go_wp2_with (first | (go_at_call 18; refine HC.out.mono ?_; rintro e w' ⟨rfl, rfl⟩))
    go_loopw [16] (fun vi wr => ∃ i : Nat, i ≤ n ∧ vi = .int .i64 i ∧ Row3 wr (w.heap.size + 1) (sumAt S i 0) ∧ Row3 wr w.heap.size (fun _ => 0) ∧ Below w.heap.size w wr) (fun vi _ => n - (intOf vi).toNat)
    case atStart => exact ⟨0, Nat.zero_le _, rfl, HR0.out, HR1.out, HB.out⟩
    case round =>
      obtain ⟨i, hi, rfl, hr, hz, hb⟩ := hrel
      have HR := Lib.hid hr
      have HZ := Lib.hid hz
      have HBW := Lib.hid hb
      clear hr hz hb
      by_cases hin : i < n
      · obtain ⟨wo, rfl⟩ : ∃ wo : World, wo = wr := ⟨_, rfl⟩
        obtain ⟨g, o, rfl, hl⟩ := HV.out.cell hin
        have HLI := Lib.hid hl
        have hgl : g < w.heap.size := hl.lt (by omega)
        clear hl
        go_wp2
        go_loopw [19] (fun vk wr => ∃ k : Nat, k ≤ 3 ∧ vk = .int .i64 k ∧ Row3 wr (w.heap.size + 1) (sumAt S i k) ∧ Row3 wr w.heap.size (fun _ => 0) ∧ Below w.heap.size w wr) (fun vk _ => 3 - (intOf vk).toNat)
        case atStart => exact ⟨0, Nat.zero_le _, rfl, HR.out, HZ.out, HBW.out⟩
        case round =>
          obtain ⟨k, hk, rfl, hr, hz, hb⟩ := hrel
          have HR2 := Lib.hid hr
          have HZ2 := Lib.hid hz
          have HB2 := Lib.hid hb
          clear hr hz hb
          by_cases hk3 : k < 3
          · have cx := HLI.out (i * 7 + 4 + k) (by omega)
            rw [← HB2.out.cell (p := ⟨g, o + (i * 7 + 4 + k), none⟩) hgl, show o + (i * 7 + 4 + k) = o + i * 7 + 4 + k from by omega] at cx
            have co := HR2.out.cell hk3
            have fo := HR2.out.free k
            have HNX := Lib.hid (sumAt_next S i k hk3)
            have hb1 := totP_le H8.out HOK.out (show i ≤ n by omega) hk3
            have hb2 := ((HOK.out i hin).2 k hk3).2
            have hv1 : sumAt S i k k = totP i S k := by unfold sumAt; rw [if_neg (by omega)]; omega
            rw [← hv1] at hb1
            clear hv1
            obtain ⟨x, hx⟩ : ∃ x, S (i * 7 + 4 + k) = x := ⟨_, rfl⟩
            obtain ⟨y, hy⟩ : ∃ y, sumAt S i k k = y := ⟨_, rfl⟩
            rw [hx] at cx hb2 HNX
            rw [hy] at co hb1 HNX
            have hb3 := hb2.1
            have hb4 := hb2.2
            have hw1 : IntKind.i64.wrap (y + x) = y + x := IntWalk.i64_in _ (by omega)
            have hw2 : wrap64 (y + x) = y + x := IntWalk.wrap64_in _ (by omega)
            clear hx hy hb1 hb2 hb3 hb4
            go_wp2
            go_still_tail 12, (by kernel_rfl)
            change wpList _ _ _ _ _ wr.drew
            go_wp2
            go_roundw
            case rel => exact ⟨k + 1, by omega, by go_num, ((HR2.out.drewN 1).set hk3 _).congr (fun c _ => (HNX.out c).symm), (HZ2.out.drewN 1).far (by omega) _, (below_drw HB2.out 1).setCell (by simp) _⟩
            case measure => first | (simp [intOf]; done) | (simp [intOf]; omega)
          · have hk4 : k = 3 := by omega
            subst hk4
            go_wp2
            go_roundw
            case rel => exact ⟨i + 1, by omega, by go_num, HR2.out.congr (fun c hc => sumAt_row S i c hc), HZ2.out, HB2.out⟩
            case measure => first | (simp [intOf]; done) | (simp [intOf]; omega)
      · have hin2 : i = n := by omega
        subst hin2
        have r0 := HR.out.cell (k := 0) (by omega)
        have r1 := HR.out.cell (k := 1) (by omega)
        have r2 := HR.out.cell (k := 2) (by omega)
        have z0 := HZ.out.cell (k := 0) (by omega)
        have z1 := HZ.out.cell (k := 1) (by omega)
        have z2 := HZ.out.cell (k := 2) (by omega)
        have f0 := HZ.out.free 0
        have f1 := HZ.out.free 1
        have f2 := HZ.out.free 2
        rw [sumAt_end] at r0 r1 r2
        go_wp2
        refine bodyPost_ret (v := .tuple #[.agg #[.int .i64 (totP i S 0), .int .i64 (totP i S 1), .int .i64 (totP i S 2)], .int .i64 0]) (res2 (F := fun c => if c = 2 then totP i S 2 else if c = 1 then totP i S 1 else if c = 0 then totP i S 0 else 0) rfl _ rfl rfl (((HZ.out.set (k := 0) (by omega) (totP i S 0)).set (k := 1) (by omega) (totP i S 1)).set (k := 2) (by omega) (totP i S 2))) rfl ⟨rfl, ?_⟩
        exact ((HBW.out.setCell (Nat.le_refl _) _).setCell (Nat.le_refl _) _).setCell (Nat.le_refl _) _
  · obtain ⟨C, hC⟩ : ∃ C, chk n S = C := ⟨_, rfl⟩
    have hs0 : ∀ c, sumOf n S c = 0 := fun c => by unfold sumOf; rw [if_neg hz]
    rw [hs0, hs0, hs0]
    rw [hC] at hck hz ⊢
    have HC := Lib.hid hck
    have hne : (C != 0) = true := by rw [bne_iff_ne]; exact hz
    clear hck hC hz hs0
    go_enter Try.func12, Try.ntmps12
    go_wp2_with (first | (go_at_call 18; refine HC.out.mono ?_; rintro e w' ⟨rfl, rfl⟩))
    refine bodyPost_ret (v := .tuple #[.agg #[.int .i64 0, .int .i64 0, .int .i64 0], .int .i64 C]) (res2 (F := fun _ => 0) rfl _ rfl rfl ?_) rfl ⟨rfl, ?_⟩
    · exact heap_alloc2_old w _ _
    · exact ((Below.refl w.heap.size w).alloc (Nat.le_refl _) _).alloc (by simp) _

set_option maxHeartbeats 2000000 in
theorem sumR_any (v : Value) (n : Nat) (S : Nat → Int) (w : World) (hv : MIn w v n S) (hn : n ≤ 4398046511104) :
    Calls Try.prog 13 #[v] w fun e w' => e = .returned (.tuple #[.agg #[.int .i64 (sumOf n S 0), .int .i64 (sumOf n S 1), .int .i64 (sumOf n S 2)], .int .i64 (chk n S)]) ∧ Below w.heap.size w w' := by
  have HV := Lib.hid hv
  have HVA := Lib.hid (hv.below (((Below.refl w.heap.size w).alloc (Nat.le_refl _) (.cells #[.int .i64 0, .int .i64 0, .int .i64 0] 26)).alloc (by simp) (.cells #[.int .i64 0, .int .i64 0, .int .i64 0] 26)))
  have HB := Lib.hid (((Below.refl w.heap.size w).alloc (Nat.le_refl _) (.cells #[.int .i64 0, .int .i64 0, .int .i64 0] 26)).alloc (by simp) (.cells #[.int .i64 0, .int .i64 0, .int .i64 0] 26))
  obtain ⟨A, cap, rfl⟩ := hv.form
  clear hv
  have hck := checkR_any (.slice A n cap) n S _ HVA.out hn
  by_cases hz : chk n S = 0
  · have HCK := Lib.hid hz
    have H8 := Lib.hid (chk_zero.1 hz).1
    have HOK := Lib.hid (chk_zero.1 hz).2
    have hs0 : ∀ c, sumOf n S c = totP n S c := fun c => by unfold sumOf; rw [if_pos hz]
    rw [hz] at hck ⊢
    rw [hs0, hs0, hs0]
    clear hz hs0
    have HC := Lib.hid hck
    clear hck
    have HR0 : Hid (Row3 ((w.alloc (.cells #[.int .i64 0, .int .i64 0, .int .i64 0] 26)).alloc (.cells #[.int .i64 0, .int .i64 0, .int .i64 0] 26)) (w.heap.size + 1) (sumAt S 0 0)) := Lib.hid (by
      have h := heap_alloc2_new w (.cells #[.int .i64 0, .int .i64 0, .int .i64 0] 26) (.cells #[.int .i64 0, .int .i64 0, .int .i64 0] 26)
      exact h)
    have HR1 : Hid (Row3 ((w.alloc (.cells #[.int .i64 0, .int .i64 0, .int .i64 0] 26)).alloc (.cells #[.int .i64 0, .int .i64 0, .int .i64 0] 26)) w.heap.size (fun _ => 0)) := Lib.hid (by
      have h := heap_alloc2_old w (.cells #[.int .i64 0, .int .i64 0, .int .i64 0] 26) (.cells #[.int .i64 0, .int .i64 0, .int .i64 0] 26)
      exact h)
    go_enter Try.func13, Try.ntmps13
    go_wp2_with (first | (go_at_call 19; refine HC.out.mono ?_; rintro e w' ⟨rfl, rfl⟩))
    go_loopw [6] (fun vi wr => ∃ i : Nat, i ≤ n ∧ vi = .int .i64 i ∧ Row3 wr (w.heap.size + 1) (sumAt S i 0) ∧ Row3 wr w.heap.size (fun _ => 0) ∧ Below w.heap.size w wr) (fun vi _ => n - (intOf vi).toNat)
    case atStart => exact ⟨0, Nat.zero_le _, rfl, HR0.out, HR1.out, HB.out⟩
    case round =>
      obtain ⟨i, hi, rfl, hr, hz, hb⟩ := hrel
      have HR := Lib.hid hr
      have HZ := Lib.hid hz
      have HBW := Lib.hid hb
      clear hr hz hb
      by_cases hin : i < n
      · obtain ⟨wo, rfl⟩ : ∃ wo : World, wo = wr := ⟨_, rfl⟩
        obtain ⟨g, o, rfl, hl⟩ := HV.out.cell hin
        have HLI := Lib.hid hl
        have hgl : g < w.heap.size := hl.lt (by omega)
        clear hl
        go_wp2
        go_loopw [7] (fun vk wr => ∃ k : Nat, k ≤ 3 ∧ vk = .int .i64 k ∧ Row3 wr (w.heap.size + 1) (sumAt S i k) ∧ Row3 wr w.heap.size (fun _ => 0) ∧ Below w.heap.size w wr) (fun vk _ => 3 - (intOf vk).toNat)
        case atStart => exact ⟨0, Nat.zero_le _, rfl, HR.out, HZ.out, HBW.out⟩
        case round =>
          obtain ⟨k, hk, rfl, hr, hz, hb⟩ := hrel
          have HR2 := Lib.hid hr
          have HZ2 := Lib.hid hz
          have HB2 := Lib.hid hb
          clear hr hz hb
          by_cases hk3 : k < 3
          · have cx := HLI.out (i * 7 + 4 + k) (by omega)
            rw [← HB2.out.cell (p := ⟨g, o + (i * 7 + 4 + k), none⟩) hgl, show o + (i * 7 + 4 + k) = o + i * 7 + 4 + k from by omega] at cx
            have co := HR2.out.cell hk3
            have fo := HR2.out.free k
            have HNX := Lib.hid (sumAt_next S i k hk3)
            have hb1 := totP_le H8.out HOK.out (show i ≤ n by omega) hk3
            have hb2 := ((HOK.out i hin).2 k hk3).2
            have hv1 : sumAt S i k k = totP i S k := by unfold sumAt; rw [if_neg (by omega)]; omega
            rw [← hv1] at hb1
            clear hv1
            obtain ⟨x, hx⟩ : ∃ x, S (i * 7 + 4 + k) = x := ⟨_, rfl⟩
            obtain ⟨y, hy⟩ : ∃ y, sumAt S i k k = y := ⟨_, rfl⟩
            rw [hx] at cx hb2 HNX
            rw [hy] at co hb1 HNX
            have hb3 := hb2.1
            have hb4 := hb2.2
            have hw1 : IntKind.i64.wrap (y + x) = y + x := IntWalk.i64_in _ (by omega)
            have hw2 : wrap64 (y + x) = y + x := IntWalk.wrap64_in _ (by omega)
            clear hx hy hb1 hb2 hb3 hb4
            go_wp2
            go_still_tail 12, (by kernel_rfl)
            change wpList _ _ _ _ _ wr.drew
            go_wp2
            go_roundw
            case rel => exact ⟨k + 1, by omega, by go_num, ((HR2.out.drewN 1).set hk3 _).congr (fun c _ => (HNX.out c).symm), (HZ2.out.drewN 1).far (by omega) _, (below_drw HB2.out 1).setCell (by simp) _⟩
            case measure => first | (simp [intOf]; done) | (simp [intOf]; omega)
          · have hk4 : k = 3 := by omega
            subst hk4
            go_wp2
            go_roundw
            case rel => exact ⟨i + 1, by omega, by go_num, HR2.out.congr (fun c hc => sumAt_row S i c hc), HZ2.out, HB2.out⟩
            case measure => first | (simp [intOf]; done) | (simp [intOf]; omega)
      · have hin2 : i = n := by omega
        subst hin2
        have r0 := HR.out.cell (k := 0) (by omega)
        have r1 := HR.out.cell (k := 1) (by omega)
        have r2 := HR.out.cell (k := 2) (by omega)
        have z0 := HZ.out.cell (k := 0) (by omega)
        have z1 := HZ.out.cell (k := 1) (by omega)
        have z2 := HZ.out.cell (k := 2) (by omega)
        have f0 := HZ.out.free 0
        have f1 := HZ.out.free 1
        have f2 := HZ.out.free 2
        rw [sumAt_end] at r0 r1 r2
        go_wp2
        refine bodyPost_ret (v := .tuple #[.agg #[.int .i64 (totP i S 0), .int .i64 (totP i S 1), .int .i64 (totP i S 2)], .int .i64 0]) (res2 (F := fun c => if c = 2 then totP i S 2 else if c = 1 then totP i S 1 else if c = 0 then totP i S 0 else 0) rfl _ rfl rfl (((HZ.out.set (k := 0) (by omega) (totP i S 0)).set (k := 1) (by omega) (totP i S 1)).set (k := 2) (by omega) (totP i S 2))) rfl ⟨rfl, ?_⟩
        exact ((HBW.out.setCell (Nat.le_refl _) _).setCell (Nat.le_refl _) _).setCell (Nat.le_refl _) _
  · obtain ⟨C, hC⟩ : ∃ C, chk n S = C := ⟨_, rfl⟩
    have hs0 : ∀ c, sumOf n S c = 0 := fun c => by unfold sumOf; rw [if_neg hz]
    rw [hs0, hs0, hs0]
    rw [hC] at hck hz ⊢
    have HC := Lib.hid hck
    have hne : (C != 0) = true := by rw [bne_iff_ne]; exact hz
    clear hck hC hz hs0
    go_enter Try.func13, Try.ntmps13
    go_wp2_with (first | (go_at_call 19; refine HC.out.mono ?_; rintro e w' ⟨rfl, rfl⟩))
    refine bodyPost_ret (v := .tuple #[.agg #[.int .i64 0, .int .i64 0, .int .i64 0], .int .i64 C]) (res2 (F := fun _ => 0) rfl _ rfl rfl ?_) rfl ⟨rfl, ?_⟩
    · exact heap_alloc2_old w _ _
    · exact ((Below.refl w.heap.size w).alloc (Nat.le_refl _) _).alloc (by simp) _
end Go.Proofs.Ytjapohjfheielaa
