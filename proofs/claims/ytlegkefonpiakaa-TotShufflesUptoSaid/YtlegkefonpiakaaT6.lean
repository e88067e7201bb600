/- The walks of tot's 'dot', 'Dot', 'Sign'. Conditions: the operations are valid; the lists lie in memory. -/
import Derived.Test.YtlegkefonpiakaaT5
import Derived.Deep.QuietTactic
import Derived.BigQuiet
namespace Go.Proofs.Ytlegkefonpiakaa
open Go.RowKit

def dotStep (a b : List Nat) (p : List Nat) (k : Nat) : List Nat := growW (growW p (prodE (a.getD k 0) (b.getD k 0))) (prodP (a.getD k 0) (b.getD k 0))
def dotW (a b : List Nat) : Nat → List Nat
  | 0 => []
  | k + 1 => dotStep a b (dotW a b k) k
theorem dotW_le (a b : List Nat) : ∀ k, (dotW a b k).length ≤ 2 * k
  | 0 => by simp [dotW]
  | k + 1 => by
    have h1 := growW_le (growW (dotW a b k) (prodE (a.getD k 0) (b.getD k 0))) (prodP (a.getD k 0) (b.getD k 0))
    have h2 := growW_le (dotW a b k) (prodE (a.getD k 0) (b.getD k 0))
    have h3 := dotW_le a b k
    unfold dotW dotStep; omega
def dotErr (F : Nat → Bool) (a b : List Nat) : Int := if checkL F a ≠ 0 then checkL F a else if checkL F b ≠ 0 then checkL F b else if a.length ≠ b.length then 1 else 0
structure DotOk (a b : List Nat) : Prop where
  prod : ∀ k, k < a.length → ProdOk (a.getD k 0) (b.getD k 0)
  grow1 : ∀ k, k < a.length → GrowOk (dotW a b k) (prodE (a.getD k 0) (b.getD k 0))
  grow2 : ∀ k, k < a.length → GrowOk (growW (dotW a b k) (prodE (a.getD k 0) (b.getD k 0))) (prodP (a.getD k 0) (b.getD k 0))
  round : RoundedOk (dotW a b a.length)

theorem product_q (x y : Nat) (h : ProdOk x y) (w : World) : Calls Try.prog 39 #[.float .f64 x, .float .f64 y] w fun e w' => e = .returned (.tuple #[.float .f64 (prodP x y), .float .f64 (prodE x y)]) ∧ w' = w :=
  (product_any x y h w).mono fun _ _ h => ⟨h.1, h.2.symm⟩

theorem checkL_le {F : Nat → Bool} {l : List Nat} (h : checkL F l = 0) : l.length ≤ 256 := by
  rcases Nat.lt_or_ge 256 l.length with h' | h'
  · unfold checkL at h; rw [if_pos h'] at h; exact absurd h (by decide)
  · exact h'

theorem LiesV.cell {w : World} {B : Nat} {A : Option Addr} {cap k : Nat} {l : List Nat} (h : LiesV w B (.slice A l.length cap) l) (hk : k < l.length) : ∃ b off, A = some ⟨b, off, none⟩ ∧ w.cell? ⟨b, off + k, none⟩ = some (.float .f64 (l.getD k 0)) := by
  obtain ⟨A', cap', hv, h⟩ := h
  cases hv
  rcases h with ⟨_, h⟩ | ⟨b, off, h1, h2, h3⟩
  · rw [h] at hk; exact absurd hk (by simp)
  · exact ⟨b, off, h1, h3 k hk⟩

set_option maxHeartbeats 4000000 in
theorem dot_ok (F : Nat → Bool) (hF : ∀ (x : Nat) (w : World), Calls Try.prog 37 #[.float .f64 x] w fun e w' => e = .returned (.bool (F x)) ∧ w = w')
    (A B : Option Addr) (ca cb : Nat) (a b : List Nat) (w : World) (ha : LiesV w w.heap.size (.slice A a.length ca) a) (hb : LiesV w w.heap.size (.slice B b.length cb) b)
    (ka : checkL F a = 0) (kb : checkL F b = 0) (hlen : a.length = b.length) (hok : DotOk a b) :
    Calls Try.prog 30 #[.slice A a.length ca, .slice B b.length cb] w fun e w' => ∃ v, e = .returned (.tuple #[v, .int .i64 0]) ∧ w'.ownsRow w.heap.size 23 1 v (dotW a b a.length).length (flts (dotW a b a.length)) ∧ Below w.heap.size w w' := by
  have la := checkL_le ka
  have lb := checkL_le kb
  have hcka := check_v F hF (.slice A a.length ca) w.heap.size a w (by omega) ha
  have hckb := check_v F hF (.slice B b.length cb) w.heap.size b w (by omega) hb
  rw [ka] at hcka
  rw [kb] at hckb
  obtain ⟨m, hm⟩ : ∃ m, b.length = m := ⟨_, rfl⟩
  have HA := Lib.hid ha
  have HB := Lib.hid hb
  have HO := Lib.hid hok
  have HL : Hid (b.length = a.length) := Lib.hid hlen.symm
  rw [← hlen] at hckb ⊢
  clear ha hb hok ka kb hm hlen
  go_enter Try.func30, Try.ntmps30
  go_wp2_with (first | (go_at_call 27; ((with_reducible refine hcka.mono ?_); rintro e w' ⟨rfl, rfl⟩)) | (go_at_call 27; ((with_reducible refine hckb.mono ?_); rintro e w' ⟨rfl, rfl⟩)))
  clear hcka hckb
  go_loopw [8, 29] (fun vp vi wr => ∃ k : Nat, k ≤ a.length ∧ vi = .int .i64 k ∧ wr.ownsRow w.heap.size 23 1 vp (dotW a b k).length (flts (dotW a b k)) ∧ Below w.heap.size w wr) (fun _ vi _ => a.length - (intOf vi).toNat)
  case atStart => exact ⟨0, Nat.zero_le _, rfl, World.ownsRow_nil _ _ _ _, Below.refl _ _⟩
  case round =>
    obtain ⟨k, hk, rfl, hown, hbel⟩ := hrel
    have HBl := Lib.hid hbel
    have HW := Lib.hid hown
    have hle := dotW_le a b k
    have hsz := hbel.size
    clear hown hbel
    by_cases hlt : k < a.length
    · obtain ⟨ba, oa, rfl, hca⟩ := (HA.out.below HBl.out).cell hlt
      obtain ⟨bb, ob, rfl, hcb⟩ := (HB.out.below HBl.out).cell (k := k) (by rw [HL.out]; exact hlt)
      have hp := HO.out.prod k hlt
      have HG1 := Lib.hid (HO.out.grow1 k hlt)
      have HG2 := Lib.hid (HO.out.grow2 k hlt)
      have HS : Hid (dotW a b (k + 1) = dotStep a b (dotW a b k) k) := Lib.hid rfl
      obtain ⟨x, hx⟩ : ∃ x, a.getD k 0 = x := ⟨_, rfl⟩
      obtain ⟨y, hy⟩ : ∃ y, b.getD k 0 = y := ⟨_, rfl⟩
      unfold dotStep at HS
      rw [hx, hy] at HS HG1 HG2
      rw [hx, hy] at hp
      rw [hx] at hca
      rw [hy] at hcb
      clear hx hy
      have hpr := product_q x y hp
      go_wp2
      go_quiet ((go_at_call 39; exact Calls.quiet_of_same (hpr _)))
      go_wp2_with fail
      refine (more_any w.heap.size _ _ (dotW a b k) (prodE x y) _ rfl (by exact HW.out) (by exact hsz) (by omega) HG1.out).mono ?_
      rintro e w1 ⟨v1, rfl, hown1, hgr1, hat1⟩
      have hsz1 : w.heap.size ≤ w1.heap.size := Nat.le_trans hsz hgr1.size
      have hle1 := growW_le (dotW a b k) (prodE x y)
      have hlt1 := fun j hj => (hown1.lt j hj).1
      have H1 := Lib.hid hown1
      have H2 := Lib.hid hgr1
      have H3 := Lib.hid hlt1
      clear hown1 hgr1 hat1 hlt1
      go_wp2_with fail
      refine (more_any w.heap.size _ _ (growW (dotW a b k) (prodE x y)) (prodP x y) _ rfl H1.out hsz1 (by omega) HG2.out).mono ?_
      rintro e w2 ⟨v2, rfl, hown2, hgr2, hat2⟩
      have H4 := Lib.hid hown2
      have H5 := Lib.hid hgr2
      clear hown2 hgr2 hat2
      go_wp2
      go_roundw
      case rel =>
        refine ⟨k + 1, by omega, by go_num, ?_, ?_⟩
        · rw [HS.out]; exact H4.out
        · have hb1 : Below w.heap.size w w1 := HBl.out.grown ⟨H2.out.os, H2.out.tape, H2.out.output, H2.out.size, H2.out.block⟩ hsz (fun j hj => (HW.out.lt j hj).1)
          exact hb1.grown H5.out hsz1 H3.out
      case measure => simp [intOf]; omega
    · have hkl : k = a.length := by omega
      have HE : Hid (dotW a b a.length = dotW a b k) := Lib.hid (by rw [hkl])
      clear hkl
      go_wp2
      go_ret2
      refine ⟨_, rfl, ?_, HBl.out⟩
      rw [HE.out]; exact HW.out

theorem dot_err (F : Nat → Bool) (hF : ∀ (x : Nat) (w : World), Calls Try.prog 37 #[.float .f64 x] w fun e w' => e = .returned (.bool (F x)) ∧ w = w')
    (A B : Option Addr) (ca cb : Nat) (a b : List Nat) (w : World) (hma : a.length ≤ 9223372036854775807) (hmb : b.length ≤ 9223372036854775807) (ha : LiesV w w.heap.size (.slice A a.length ca) a) (hb : LiesV w w.heap.size (.slice B b.length cb) b)
    (he : dotErr F a b ≠ 0) :
    Calls Try.prog 30 #[.slice A a.length ca, .slice B b.length cb] w fun e w' => e = .returned (.tuple #[.slice none 0 0, .int .i64 (dotErr F a b)]) ∧ w = w' := by
  have hcka := check_v F hF (.slice A a.length ca) w.heap.size a w hma ha
  have hckb := check_v F hF (.slice B b.length cb) w.heap.size b w hmb hb
  clear ha hb
  by_cases ka : checkL F a = 0
  · rw [ka] at hcka
    by_cases kb : checkL F b = 0
    · rw [kb] at hckb
      have hne : a.length ≠ b.length := by
        intro e; apply he; unfold dotErr; rw [if_neg (by omega), if_neg (by omega), if_neg (by omega)]
      have e1 : dotErr F a b = 1 := by unfold dotErr; rw [if_neg (by omega), if_neg (by omega), if_pos hne]
      rw [e1]
      have hne' : ((a.length : Int) != (b.length : Int)) = true := by rw [bne_iff_ne]; omega
      clear he e1 ka kb hne
      go_enter Try.func30, Try.ntmps30
      go_wp2_with fail
      refine hcka.mono ?_
      rintro e w' ⟨rfl, rfl⟩
      go_wp2_with fail
      refine hckb.mono ?_
      rintro e w' ⟨rfl, rfl⟩
      go_wp2_with fail
      go_ret2
      exact ⟨rfl, rfl⟩
    · have e1 : dotErr F a b = checkL F b := by unfold dotErr; rw [if_neg (by omega), if_pos kb]
      rw [e1]
      have kb' : (checkL F b != 0) = true := by rw [bne_iff_ne]; exact kb
      clear he e1 ka
      obtain ⟨c, hc⟩ : ∃ c, checkL F b = c := ⟨_, rfl⟩
      rw [hc] at hckb kb' ⊢
      clear hc kb
      go_enter Try.func30, Try.ntmps30
      go_wp2_with fail
      refine hcka.mono ?_
      rintro e w' ⟨rfl, rfl⟩
      go_wp2_with fail
      refine hckb.mono ?_
      rintro e w' ⟨rfl, rfl⟩
      go_wp2_with fail
      go_ret2
      exact ⟨rfl, rfl⟩
  · have e1 : dotErr F a b = checkL F a := by unfold dotErr; rw [if_pos ka]
    rw [e1]
    have ka' : (checkL F a != 0) = true := by rw [bne_iff_ne]; exact ka
    clear he e1 hckb
    obtain ⟨c, hc⟩ : ∃ c, checkL F a = c := ⟨_, rfl⟩
    rw [hc] at hcka ka' ⊢
    clear hc ka
    go_enter Try.func30, Try.ntmps30
    go_wp2_with fail
    refine hcka.mono ?_
    rintro e w' ⟨rfl, rfl⟩
    go_wp2_with fail
    go_ret2
    exact ⟨rfl, rfl⟩

theorem dotErr_zero {F : Nat → Bool} {a b : List Nat} (h : dotErr F a b = 0) : checkL F a = 0 ∧ checkL F b = 0 ∧ a.length = b.length := by
  unfold dotErr at h
  split at h
  · omega
  · split at h
    · omega
    · split at h
      · omega
      · omega

def dotR (F : Nat → Bool) (a b : List Nat) : Nat := if dotErr F a b = 0 then roundedW (dotW a b a.length) else 0
/-- the sign of an expansion: that of its greatest part -/
def signW (ys : List Nat) : Int := if ys.length = 0 then 0 else if lt0 (ys.getD (ys.length - 1) 0) then -1 else 1
def signR (F : Nat → Bool) (a b : List Nat) : Int := if dotErr F a b = 0 then signW (dotW a b a.length) else 0

theorem Dot_any (F : Nat → Bool) (hF : ∀ (x : Nat) (w : World), Calls Try.prog 37 #[.float .f64 x] w fun e w' => e = .returned (.bool (F x)) ∧ w = w')
    (A B : Option Addr) (ca cb : Nat) (a b : List Nat) (w : World) (hma : a.length ≤ 9223372036854775807) (hmb : b.length ≤ 9223372036854775807) (ha : LiesV w w.heap.size (.slice A a.length ca) a) (hb : LiesV w w.heap.size (.slice B b.length cb) b)
    (hok : dotErr F a b = 0 → DotOk a b) :
    Calls Try.prog 14 #[.slice A a.length ca, .slice B b.length cb] w fun e w' => e = .returned (.tuple #[.float .f64 (dotR F a b), .int .i64 (dotErr F a b)]) ∧ Below w.heap.size w w' := by
  by_cases he : dotErr F a b = 0
  · obtain ⟨ka, kb, hl⟩ := dotErr_zero he
    have la := checkL_le ka
    have hd := dot_ok F hF A B ca cb a b w ha hb ka kb hl (hok he)
    have hr : dotR F a b = roundedW (dotW a b a.length) := by unfold dotR; rw [if_pos he]
    have hle := dotW_le a b a.length
    have HO := Lib.hid (hok he).round
    rw [he, hr]
    clear he hr hok ha hb ka kb hl
    generalize dotW a b a.length = ys at *
    go_enter Try.func14, Try.ntmps14
    go_wp2_with fail
    refine hd.mono ?_
    rintro e w1 ⟨v, rfl, hown, hbel⟩
    have HW := Lib.hid hown
    have HB := Lib.hid hbel
    clear hown hbel hd
    go_wp2_with fail
    refine (rounded_own _ _ _ ys _ rfl HW.out (by omega) HO.out).mono ?_
    rintro e w2 ⟨rfl, rfl⟩
    go_wp2_with fail
    go_ret2
    exact ⟨rfl, HB.out⟩
  · have hd := dot_err F hF A B ca cb a b w hma hmb ha hb he
    have hr : dotR F a b = 0 := by unfold dotR; rw [if_neg he]
    have he' : (dotErr F a b != 0) = true := by rw [bne_iff_ne]; exact he
    rw [hr]
    clear hr hok ha hb
    obtain ⟨c, hc⟩ : ∃ c, dotErr F a b = c := ⟨_, rfl⟩
    rw [hc] at hd he' ⊢
    clear hc he
    go_enter Try.func14, Try.ntmps14
    go_wp2_with fail
    refine hd.mono ?_
    rintro e w1 ⟨rfl, rfl⟩
    go_wp2_with fail
    go_ret2
    exact ⟨rfl, Below.refl _ _⟩

theorem Sign_any (F : Nat → Bool) (hF : ∀ (x : Nat) (w : World), Calls Try.prog 37 #[.float .f64 x] w fun e w' => e = .returned (.bool (F x)) ∧ w = w')
    (A B : Option Addr) (ca cb : Nat) (a b : List Nat) (w : World) (hma : a.length ≤ 9223372036854775807) (hmb : b.length ≤ 9223372036854775807) (ha : LiesV w w.heap.size (.slice A a.length ca) a) (hb : LiesV w w.heap.size (.slice B b.length cb) b)
    (hok : dotErr F a b = 0 → DotOk a b) :
    Calls Try.prog 16 #[.slice A a.length ca, .slice B b.length cb] w fun e w' => e = .returned (.tuple #[.int .i64 (signR F a b), .int .i64 (dotErr F a b)]) ∧ Below w.heap.size w w' := by
  by_cases he : dotErr F a b = 0
  · obtain ⟨ka, kb, hl⟩ := dotErr_zero he
    have la := checkL_le ka
    have hd := dot_ok F hF A B ca cb a b w ha hb ka kb hl (hok he)
    have hr : signR F a b = signW (dotW a b a.length) := by unfold signR; rw [if_pos he]
    have hle := dotW_le a b a.length
    rw [he, hr]
    clear he hr hok ha hb ka kb hl
    generalize dotW a b a.length = ys at *
    go_enter Try.func16, Try.ntmps16
    go_wp2_with fail
    refine hd.mono ?_
    rintro e w1 ⟨v, rfl, hown, hbel⟩
    have HB := Lib.hid hbel
    clear hbel hd
    rcases hown.2 with ⟨hv, h0⟩ | ⟨g, cap, _, hv, _⟩
    · subst hv
      have hs : signW ys = 0 := by unfold signW; rw [if_pos h0]
      have HS := Lib.hid hs
      clear hown hs h0
      go_wp2
      go_ret2
      exact ⟨by rw [HS.out]; rfl, HB.out⟩
    · subst hv
      by_cases h0 : ys.length = 0
      · have hs : signW ys = 0 := by unfold signW; rw [if_pos h0]
        have HS := Lib.hid hs
        have hlz : ((ys.length : Int) == 0) = true := by rw [beq_iff_eq]; omega
        clear hown hs h0
        go_wp2
        go_ret2
        exact ⟨by rw [HS.out]; rfl, HB.out⟩
      · obtain ⟨hlies, _⟩ := lies_of_owns hown
        have hcell := hlies (ys.length - 1) (by omega)
        obtain ⟨y, hy⟩ : ∃ y, ys.getD (ys.length - 1) 0 = y := ⟨_, rfl⟩
        rw [hy, Nat.zero_add] at hcell
        have hs : signW ys = if lt0 y then -1 else 1 := by unfold signW; rw [if_neg h0, hy]
        have HS := Lib.hid hs
        obtain ⟨n, hn⟩ : ∃ n, ys.length = n + 1 := ⟨ys.length - 1, by omega⟩
        rw [hn] at hcell hown hle ⊢
        simp only [Nat.add_sub_cancel] at hcell
        have hnz : ((n : Int) + 1 == 0) = false := by rw [beq_eq_false_iff_ne]; omega
        clear hown hs h0 hlies hy hn
        cases hlt : lt0 y
        · have hlt' : (FloatKind.f64.format.order y 0 == some .lt) = false := hlt
          have HT := Lib.hid hlt
          clear hlt
          go_wp2
          go_ret2
          exact ⟨by rw [HS.out, HT.out]; rfl, HB.out⟩
        · have hlt' : (FloatKind.f64.format.order y 0 == some .lt) = true := hlt
          have HT := Lib.hid hlt
          clear hlt
          go_wp2
          go_ret2
          exact ⟨by rw [HS.out, HT.out]; rfl, HB.out⟩
  · have hd := dot_err F hF A B ca cb a b w hma hmb ha hb he
    have hr : signR F a b = 0 := by unfold signR; rw [if_neg he]
    have he' : (dotErr F a b != 0) = true := by rw [bne_iff_ne]; exact he
    rw [hr]
    clear hr hok ha hb
    obtain ⟨c, hc⟩ : ∃ c, dotErr F a b = c := ⟨_, rfl⟩
    rw [hc] at hd he' ⊢
    clear hc he
    go_enter Try.func16, Try.ntmps16
    go_wp2_with fail
    refine hd.mono ?_
    rintro e w1 ⟨rfl, rfl⟩
    go_wp2
    go_ret2
    exact ⟨rfl, Below.refl _ _⟩
end Go.Proofs.Ytlegkefonpiakaa
