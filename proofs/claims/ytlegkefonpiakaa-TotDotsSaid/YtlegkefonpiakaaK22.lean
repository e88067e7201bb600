/- Walks: the reference's exact sum of products, by value. Conditions: lists that came in. -/
import Derived.Test.YtlegkefonpiakaaK21
import Derived.Laws.ResultCell
import Derived.Laws.CopyOwn
namespace Go.Proofs.Ytlegkefonpiakaa
open Go.RowKit
open Ieee (FinW V dR big double wordOf)

/-- 24 limbs, by value -/
def AggR (cur : Array Value) (v : Int) : Prop := cur.size = 24 ∧ (∀ j, j < 24 → cur[j]? = some (.int .u64 (limb v j : Int))) ∧ cur.all (·.oneCell') = true
theorem AccR.agg {w : World} {g : Nat} {v : Int} (h : AccR w g (limb v)) : ∃ cur, w.heap[g]? = some (.cells cur 53 (0, 0)) ∧ AggR cur v := by
  obtain ⟨cur, hg, hcs, hsz⟩ := h
  refine ⟨cur, hg, hsz, hcs, ?_⟩
  rw [Array.all_eq_true_iff_forall_mem]
  intro x hx
  obtain ⟨i, hi, rfl⟩ := Array.mem_iff_getElem.1 hx
  have := hcs i (by omega)
  rw [Array.getElem?_eq_getElem hi] at this
  injection this with this
  rw [this]; rfl
theorem AggR.new {cur : Array Value} {v : Int} (h : AggR cur v) (w : World) : AccR (w.alloc (.cells cur 53)) w.heap.size (limb v) := ⟨cur, heap_alloc_new w _, h.2.1, h.1⟩
theorem AggR.info {cur : Array Value} {v : Int} (h : AggR cur v) : (Try.prog.info? 53).map (·.size) = some cur.size := by rw [h.1]; exact Try.size53
theorem AggR.fits {cur : Array Value} {v : Int} (h : AggR cur v) : z24.size = cur.size := by rw [h.1]; rfl
theorem agg_zero : AggR z24 0 := by
  have hz : z24 = Array.replicate 24 (.int .u64 0) := rfl
  refine ⟨rfl, fun j hj => ?_, by simp [Value.oneCell']⟩
  have hl : limb 0 j = 0 := by have h := limb_nat 0 j; rw [Nat.zero_div] at h; exact h
  rw [hl, hz]
  simp [hj]

/-! ### the plain law -/
def accP (a b : List Nat) : Nat → Int
  | 0 => 0
  | k + 1 => accP a b k + aW (a.getD k 0) (b.getD k 0)
theorem accP_V {a b : List Nat} (wa : Words a) (wb : Words b) (fa : ∀ x ∈ a, fitB x = true) (fb : ∀ x ∈ b, fitB x = true) (hl : a.length = b.length) : ∀ k, k ≤ a.length → accP a b k * 2 ^ 50 = dotV a b k
  | 0, _ => by unfold accP dotV; rw [Int.zero_mul]
  | k + 1, hk => by
    have m1 : a.getD k 0 ∈ a := getD_mem (by omega)
    have m2 : b.getD k 0 ∈ b := getD_mem (by omega)
    unfold accP dotV
    rw [Int.add_mul, accP_V wa wb fa fb hl k (by omega), aW_V (wa _ m1) (wb _ m2) (fa _ m1) (fb _ m2)]
theorem aW_dvd {x y : Nat} (hx : fitB x = true) (hy : fitB y = true) : (2 : Int) ^ 53 ∣ aW x y := by
  by_cases h0 : rg x = 0 ∨ rg y = 0
  · rw [aW_zero h0]; exact ⟨0, by rw [Int.mul_zero]⟩
  · have h1 : 823 ≤ rg x / 4503599627370496 := by
      rcases fit_range hx with h | h
      · exact absurd (Or.inl h) h0
      · exact h.1
    have h2 : 823 ≤ rg y / 4503599627370496 := by
      rcases fit_range hy with h | h
      · exact absurd (Or.inr h) h0
      · exact h.1
    have hp : (2 : Nat) ^ 53 ∣ aQ (rg x) (rg y) := by
      unfold aQ
      exact Nat.dvd_trans (Nat.pow_dvd_pow 2 (by omega)) (Nat.dvd_mul_left _ _)
    have hp2 : (2 : Int) ^ 53 ∣ ((aQ (rg x) (rg y) : Nat) : Int) := by
      have := Int.natCast_dvd_natCast.2 hp
      rwa [Int.natCast_pow] at this
    unfold aW
    split
    · exact Int.dvd_neg.2 hp2
    · exact hp2
theorem accP_dvd {a b : List Nat} (fa : ∀ x ∈ a, fitB x = true) (fb : ∀ x ∈ b, fitB x = true) (hl : a.length = b.length) : ∀ k, k ≤ a.length → (2 : Int) ^ 53 ∣ accP a b k
  | 0, _ => ⟨0, by unfold accP; rw [Int.mul_zero]⟩
  | k + 1, hk => by
    unfold accP
    exact Int.dvd_add (accP_dvd fa fb hl k (by omega)) (aW_dvd (fa _ (getD_mem (by omega))) (fb _ (getD_mem (by omega))))
theorem accP_law {a b : List Nat} (wa : Words a) (wb : Words b) (h : dotErr fitB a b = 0) :
    (accP a b a.length).natAbs < 2 ^ topE ∧ (accP a b a.length = 0 ∨ 2 ^ 53 ≤ (accP a b a.length).natAbs) ∧ wordOf (dR (accP a b a.length * 2 ^ 50)) = dotR fitB a b ∧ (accP a b a.length).sign = signR fitB a b := by
  obtain ⟨ka, kb, hlen⟩ := dotErr_zero h
  obtain ⟨la, fa⟩ := checkL_fits ka
  obtain ⟨lb, fb⟩ := checkL_fits kb
  obtain ⟨_, h2, h3⟩ := dot_law wa wb h
  have hV := accP_V wa wb fa fb hlen a.length (Nat.le_refl _)
  refine ⟨acc_bound hV (cap_dot wa wb h), big_or_zero (accP_dvd fa fb hlen _ (Nat.le_refl _)), ?_, ?_⟩
  · unfold dotR; rw [if_pos h, h2, hV]
  · unfold signR; rw [if_pos h, h3, ← hV, Int.sign_mul]
    have : ((2 : Int) ^ 50).sign = 1 := by decide
    rw [this, Int.mul_one]

/-! ### the walk -/
theorem below_row {w wr : World} {B : Nat} (h : Below B w wr) (cur : Array Value) : Below B w (wr.setRow B cur) := ⟨h.os, h.tape, h.output, by rw [size_setRow]; exact h.size, fun k hk => by rw [setRow_other wr B k cur (by omega)]; exact h.block k hk⟩

theorem load_back {wr : World} {g : Nat} {cur : Array Value} {v : Int} (hg : wr.heap[g]? = some (.cells z24 53 (0, 0))) (h : AggR cur v) :
    (loadVar 53 ⟨g, 0, none⟩).run Try.prog (wr.setRow g cur) = .ok (.agg cur) (wr.setRow g cur) :=
  run_loadVar_row _ _ 53 53 cur (0, 0) _ (setRow_heap wr g z24 cur 53 (0, 0) hg) Try.underlying53 rfl h.info

set_option maxRecDepth 20000 in
theorem refDot_ok (A B : Option Addr) (ca cb : Nat) (a b : List Nat) (w : World) (ha : Came w w.heap.size (.slice A a.length ca) a) (hb : Came w w.heap.size (.slice B b.length cb) b) (wa : Words a) (wb : Words b)
    (h : dotErr fitB a b = 0) :
    Calls Try.prog 31 #[.slice A a.length ca, .slice B b.length cb] w fun e w' => ∃ cur, e = .returned (.tuple #[.agg cur, .int .i64 0]) ∧ AggR cur (accP a b a.length) ∧ Below w.heap.size w w' := by
  obtain ⟨ka, kb, hlen⟩ := dotErr_zero h
  obtain ⟨la, fa⟩ := checkL_fits ka
  obtain ⟨lb, fb⟩ := checkL_fits kb
  have HCA : Hid (∀ u, Below w.heap.size w u → Calls Try.prog 35 #[.slice A a.length ca] u fun e w' => e = .returned (.int .i64 0) ∧ u = w') := Lib.hid (fun u hu => by
    have := refCheck_any _ _ a u (ha.below hu) (by omega)
    rw [ka] at this; exact this)
  have HCB : Hid (∀ u, Below w.heap.size w u → Calls Try.prog 35 #[.slice B b.length cb] u fun e w' => e = .returned (.int .i64 0) ∧ u = w') := Lib.hid (fun u hu => by
    have := refCheck_any _ _ b u (hb.below hu) (by omega)
    rw [kb] at this; exact this)
  have HA := Lib.hid ha
  have HB := Lib.hid hb
  have HF : Hid ((∀ x ∈ a, fitB x = true) ∧ (∀ x ∈ b, fitB x = true) ∧ Words a ∧ Words b) := Lib.hid ⟨fa, fb, wa, wb⟩
  obtain ⟨n, hn⟩ : ∃ n, a.length = n := ⟨_, rfl⟩
  have hn2 : b.length = n := by omega
  have HN : Hid (a.length = n ∧ b.length = n) := Lib.hid ⟨hn, hn2⟩
  rw [hn] at HCA HA la ⊢
  rw [hn2] at HCB HB ⊢
  have HBB : Hid (Below w.heap.size w ((w.alloc (.cells z24 53)).alloc (.cells z24 53))) := Lib.hid (((Below.refl w.heap.size w).alloc (Nat.le_refl _) _).alloc (by simp) _)
  have HG0 : Hid (((w.alloc (.cells z24 53)).alloc (.cells z24 53)).heap[w.heap.size]? = some (.cells z24 53 (0, 0))) := Lib.hid (heap_alloc2_old w _ _)
  have HS0 : Hid (w.heap.size + 2 ≤ ((w.alloc (.cells z24 53)).alloc (.cells z24 53)).heap.size) := Lib.hid (by simp)
  have HNEW : Hid (AccR ((w.alloc (.cells z24 53)).alloc (.cells z24 53)) (w.heap.size + 1) (limb 0)) := Lib.hid (by
    have := acc_new (w.alloc (.cells z24 53))
    rwa [show (w.alloc (.cells z24 53)).heap.size = w.heap.size + 1 from by simp] at this)
  clear ha hb wa wb h ka kb hlen lb fa fb hn hn2
  go_enter Try.func31, Try.ntmps31
  go_wp2_with (first | (go_at_call 35; ((with_reducible refine (HCA.out _ ?_).mono ?_); exact HBB.out; rintro e w' ⟨rfl, rfl⟩)) | (go_at_call 35; ((with_reducible refine (HCB.out _ ?_).mono ?_); exact HBB.out; rintro e w' ⟨rfl, rfl⟩)))
  generalize (w.alloc (.cells z24 53)).alloc (.cells z24 53) = w2 at HBB HG0 HS0 HNEW ⊢
  clear HCA HCB
  go_loopw [9] (fun vi wr => ∃ k : Nat, k ≤ n ∧ vi = .int .i64 k ∧ AccR wr (w.heap.size + 1) (limb (accP a b k)) ∧ wr.heap[w.heap.size]? = some (.cells z24 53 (0, 0)) ∧ Below w.heap.size w wr ∧ w.heap.size + 2 ≤ wr.heap.size) (fun vi _ => n - (intOf vi).toNat)
  case atStart => exact ⟨0, Nat.zero_le _, rfl, HNEW.out, HG0.out, HBB.out, HS0.out⟩
  case round =>
    obtain ⟨k, hk, rfl, hacc, hg0, hbb, hss⟩ := hrel
    have HG := Lib.hid hg0
    have HB1 := Lib.hid hbb
    have HS1 := Lib.hid hss
    by_cases hlt : k < n
    · have ka : k < a.length := by rw [HN.out.1]; exact hlt
      have kb : k < b.length := by rw [HN.out.2]; exact hlt
      have HA3 := HA.out
      rw [← HN.out.1] at HA3
      have HB3 := HB.out
      rw [← HN.out.2] at HB3
      obtain ⟨ba, oa, rfl, hca⟩ := (HA3.below hbb).cell ka
      obtain ⟨bb, ob, rfl, hcb⟩ := (HB3.below hbb).cell kb
      have m1 : a.getD k 0 ∈ a := getD_mem ka
      have m2 : b.getD k 0 ∈ b := getD_mem kb
      have HADD := Lib.hid (addProd_any (w.heap.size + 1) (a.getD k 0) (b.getD k 0) (accP a b k) wr.drew hacc (HF.out.2.2.1 _ m1) (HF.out.2.2.2 _ m2) (HF.out.1 _ m1) (HF.out.2.1 _ m2))
      have HAC : Hid (accP a b k + aW (a.getD k 0) (b.getD k 0) = accP a b (k + 1)) := Lib.hid rfl
      rw [HAC.out] at HADD
      obtain ⟨x, hx⟩ : ∃ x, a.getD k 0 = x := ⟨_, rfl⟩
      obtain ⟨y, hy⟩ : ∃ y, b.getD k 0 = y := ⟨_, rfl⟩
      rw [hx] at hca HADD
      rw [hy] at hcb HADD
      clear HA3 HB3 m1 m2 HAC hx hy ka kb hacc hg0 hbb hss
      go_wp2
      go_still_tail 8, (by kernel_rfl)
      change wpList _ _ _ _ _ wr.drew
      go_wp2_with (first | (go_at_call 40; refine HADD.out.mono ?_; rintro e w' ⟨rfl, hacc, htt⟩))
      have HX := Lib.hid hacc
      have HT := Lib.hid htt
      clear hacc htt
      go_roundw
      case rel => exact ⟨k + 1, by omega, by go_num, HX.out, (HT.out.block w.heap.size (by have := HS1.out; exact Nat.lt_of_lt_of_le (by omega) this) (by intro h; injection h with h; omega)).trans HG.out, HT.out.below (below_drw HB1.out 1) (by omega) (by have := HS1.out; exact Nat.le_trans (by omega) this), Nat.le_trans HS1.out HT.out.size⟩
      case measure => first | (simp [intOf]; done) | (simp [intOf]; omega)
    · have hkl : k = n := by omega
      subst hkl
      obtain ⟨cur, hg1, hag⟩ := hacc.agg
      have HL := Lib.hid hg1
      have HAG := Lib.hid hag
      clear hg1 hag hacc hg0 hbb hss
      go_wp2_with (first | (refine wpList_load_row rfl 53 _ rfl (w.heap.size + 1) rfl 53 cur (0, 0) _ HL.out Try.underlying53 rfl HAG.out.info ?_) | (refine wpList_store_row rfl 53 _ _ rfl w.heap.size cur rfl rfl 53 z24 HG.out HAG.out.info HAG.out.fits HAG.out.2.2 ?_))
      have hld := load_back HG.out HAG.out
      refine bodyPost_ret (v := .tuple #[.agg cur, .int .i64 0]) ?_ rfl ⟨cur, rfl, HAG.out, below_row HB1.out cur⟩
      rw [results_cell_tmp rfl]
      simp [asAddr, Result.andThen, hld]

set_option maxRecDepth 20000 in
theorem refDot_err (A B : Option Addr) (ca cb : Nat) (a b : List Nat) (w : World) (ha : Came w w.heap.size (.slice A a.length ca) a) (hb : Came w w.heap.size (.slice B b.length cb) b)
    (ma : a.length ≤ 17592186043904) (mb : b.length ≤ 17592186043904) (h : dotErr fitB a b ≠ 0) :
    Calls Try.prog 31 #[.slice A a.length ca, .slice B b.length cb] w fun e w' => e = .returned (.tuple #[.agg z24, .int .i64 (dotErr fitB a b)]) ∧ Below w.heap.size w w' := by
  have HCA : Hid (∀ u, Below w.heap.size w u → Calls Try.prog 35 #[.slice A a.length ca] u fun e w' => e = .returned (.int .i64 (checkL fitB a)) ∧ u = w') := Lib.hid (fun u hu => refCheck_any _ _ a u (ha.below hu) (by omega))
  have HCB : Hid (∀ u, Below w.heap.size w u → Calls Try.prog 35 #[.slice B b.length cb] u fun e w' => e = .returned (.int .i64 (checkL fitB b)) ∧ u = w') := Lib.hid (fun u hu => refCheck_any _ _ b u (hb.below hu) (by omega))
  have HBB : Hid (Below w.heap.size w ((w.alloc (.cells z24 53)).alloc (.cells z24 53))) := Lib.hid (((Below.refl w.heap.size w).alloc (Nat.le_refl _) _).alloc (by simp) _)
  have HG0 : Hid (((w.alloc (.cells z24 53)).alloc (.cells z24 53)).heap[w.heap.size]? = some (.cells z24 53 (0, 0))) := Lib.hid (heap_alloc2_old w _ _)
  have HG1 : Hid (((w.alloc (.cells z24 53)).alloc (.cells z24 53)).heap[w.heap.size + 1]? = some (.cells z24 53 (0, 0))) := Lib.hid (heap_alloc2_new w _ _)
  have HZ := Lib.hid agg_zero
  clear ha hb
  by_cases ka : checkL fitB a = 0
  · rw [ka] at HCA
    by_cases kb : checkL fitB b = 0
    · rw [kb] at HCB
      have hne : a.length ≠ b.length := by
        intro e; apply h; unfold dotErr; rw [if_neg (by omega), if_neg (by omega), if_neg (by omega)]
      have e1 : dotErr fitB a b = 1 := by unfold dotErr; rw [if_neg (by omega), if_neg (by omega), if_pos hne]
      rw [e1]
      obtain ⟨n, hn⟩ : ∃ n, a.length = n := ⟨_, rfl⟩
      obtain ⟨m, hm⟩ : ∃ m, b.length = m := ⟨_, rfl⟩
      rw [hn] at HCA ma hne ⊢
      rw [hm] at HCB mb hne ⊢
      have hne' : ((n : Int) != (m : Int)) = true := by rw [bne_iff_ne]; omega
      clear h e1 ka kb hne hn hm
      go_enter Try.func31, Try.ntmps31
      go_wp2_with (first | (go_at_call 35; ((with_reducible refine (HCA.out _ ?_).mono ?_); exact HBB.out; rintro e w' ⟨rfl, rfl⟩)) | (go_at_call 35; ((with_reducible refine (HCB.out _ ?_).mono ?_); exact HBB.out; rintro e w' ⟨rfl, rfl⟩)) | (refine wpList_load_row rfl 53 _ rfl (w.heap.size + 1) rfl 53 z24 (0, 0) _ HG1.out Try.underlying53 rfl HZ.out.info ?_) | (refine wpList_store_row rfl 53 _ _ rfl w.heap.size z24 rfl rfl 53 z24 HG0.out HZ.out.info HZ.out.fits HZ.out.2.2 ?_))
      have hld := load_back HG0.out HZ.out
      refine bodyPost_ret (v := .tuple #[.agg z24, .int .i64 1]) ?_ rfl ⟨rfl, below_row HBB.out z24⟩
      rw [results_cell_tmp rfl]
      simp [asAddr, Result.andThen, hld]
    · have e1 : dotErr fitB a b = checkL fitB b := by unfold dotErr; rw [if_neg (by omega), if_pos kb]
      rw [e1]
      have kb' : (checkL fitB b != 0) = true := by rw [bne_iff_ne]; exact kb
      obtain ⟨c, hc⟩ : ∃ c, checkL fitB b = c := ⟨_, rfl⟩
      obtain ⟨n, hn⟩ : ∃ n, a.length = n := ⟨_, rfl⟩
      obtain ⟨m, hm⟩ : ∃ m, b.length = m := ⟨_, rfl⟩
      rw [hc] at HCB kb' ⊢
      rw [hn] at HCA ma ⊢
      rw [hm] at HCB mb ⊢
      clear h e1 ka kb hn hm hc
      go_enter Try.func31, Try.ntmps31
      go_wp2_with (first | (go_at_call 35; ((with_reducible refine (HCA.out _ ?_).mono ?_); exact HBB.out; rintro e w' ⟨rfl, rfl⟩)) | (go_at_call 35; ((with_reducible refine (HCB.out _ ?_).mono ?_); exact HBB.out; rintro e w' ⟨rfl, rfl⟩)) | (refine wpList_load_row rfl 53 _ rfl (w.heap.size + 1) rfl 53 z24 (0, 0) _ HG1.out Try.underlying53 rfl HZ.out.info ?_) | (refine wpList_store_row rfl 53 _ _ rfl w.heap.size z24 rfl rfl 53 z24 HG0.out HZ.out.info HZ.out.fits HZ.out.2.2 ?_))
      have hld := load_back HG0.out HZ.out
      refine bodyPost_ret (v := .tuple #[.agg z24, .int .i64 c]) ?_ rfl ⟨rfl, below_row HBB.out z24⟩
      rw [results_cell_tmp rfl]
      simp [asAddr, Result.andThen, hld]
  · have e1 : dotErr fitB a b = checkL fitB a := by unfold dotErr; rw [if_pos ka]
    rw [e1]
    have ka' : (checkL fitB a != 0) = true := by rw [bne_iff_ne]; exact ka
    obtain ⟨c, hc⟩ : ∃ c, checkL fitB a = c := ⟨_, rfl⟩
    obtain ⟨n, hn⟩ : ∃ n, a.length = n := ⟨_, rfl⟩
    obtain ⟨m, hm⟩ : ∃ m, b.length = m := ⟨_, rfl⟩
    rw [hc] at HCA ka' ⊢
    rw [hn] at HCA ma ⊢
    rw [hm] at mb ⊢
    clear h e1 ka hn hm hc HCB
    go_enter Try.func31, Try.ntmps31
    go_wp2_with (first | (go_at_call 35; ((with_reducible refine (HCA.out _ ?_).mono ?_); exact HBB.out; rintro e w' ⟨rfl, rfl⟩)) | (refine wpList_load_row rfl 53 _ rfl (w.heap.size + 1) rfl 53 z24 (0, 0) _ HG1.out Try.underlying53 rfl HZ.out.info ?_) | (refine wpList_store_row rfl 53 _ _ rfl w.heap.size z24 rfl rfl 53 z24 HG0.out HZ.out.info HZ.out.fits HZ.out.2.2 ?_))
    have hld := load_back HG0.out HZ.out
    refine bodyPost_ret (v := .tuple #[.agg z24, .int .i64 c]) ?_ rfl ⟨rfl, below_row HBB.out z24⟩
    rw [results_cell_tmp rfl]
    simp [asAddr, Result.andThen, hld]
end Go.Proofs.Ytlegkefonpiakaa
