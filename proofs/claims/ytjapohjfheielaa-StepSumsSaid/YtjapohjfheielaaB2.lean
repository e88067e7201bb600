/- Walks: what a mass pulls at another, the program's and the reference's. Conditions: masses on the grid, a fit constant. -/
import Derived.Test.YtjapohjfheielaaA3
import Derived.Test.YtjapohjfheielaaB1
import Derived.RegionTactic
import Derived.ChangeAlike
import Derived.Deep.QuietTactic
import Derived.BigQuiet
import Derived.OwnWalk
import Derived.IntWalk
namespace Go.Proofs.Ytjapohjfheielaa
open Go.RowKit
open Ieee (FinW V dR big double wordOf deepD)
attribute [local irreducible] Ieee.V Ieee.Format.rnd fv Ieee.big Ieee.deepD flW sqW iw hU forceW clampLo clampHi rN longV

theorem run_store_flt (a : Addr) (b : Nat) (m : Mode) (u : World) : (store a (.float .f64 b) m).run Try.prog u = stored Try.prog u a (.float .f64 b) m := run_store _ _ _ _ _ rfl
def Drawn (w w' : World) : Prop := ∃ m, w' = w.drewN m
theorem Drawn.refl (w : World) : Drawn w w := ⟨0, rfl⟩
theorem Drawn.drew {a w : World} (h : Drawn a w) : Drawn a w.drew := by obtain ⟨m, rfl⟩ := h; exact ⟨m + 1, rfl⟩
theorem Drawn.drewN {a w : World} (h : Drawn a w) (n : Nat) : Drawn a (w.drewN n) := by obtain ⟨m, rfl⟩ := h; exact ⟨m + n, by rw [World.drewN_drewN]⟩
theorem dd6 (X : World) (n : Nat) : X.drewN (1 + (1 + (1 + (1 + (1 + (1 + n)))))) = X.drew.drew.drew.drew.drew.drew.drewN n := by simp only [World.drewN_drew]
theorem below_drw {B : Nat} {a w : World} (h : Below B a w) (n : Nat) : Below B a (w.drewN n) := ⟨h.os, h.tape, h.output, h.size, h.block⟩
/-- the list of impulses, so far -/
def outL (p0 p1 p2 : Int) (k : Nat) : Array Value := #[.int .i64 (if 0 < k then p0 else 0), .int .i64 (if 1 < k then p1 else 0), .int .i64 (if 2 < k then p2 else 0)]

set_option maxRecDepth 20000 in
set_option maxHeartbeats 2000000 in
theorem pullP_raw (am ax0 ax1 ax2 ap0 ap1 ap2 bm bx0 bx1 bx2 bp0 bp1 bp2 : Int) (g : Nat) (w : World)
    (D0 D1 D2 Q0 Q1 Q2 L0 L1 L2 G S T F X0 X1 X2 Y0 Y1 Y2 : Nat) (p0 p1 p2 mm : Int) (h0 h1 h2 l0 l1 l2 : Bool)
    (b0 : -2199023255552 ≤ bx0 - ax0) (c0 : bx0 - ax0 ≤ 2199023255552)
    (b1 : -2199023255552 ≤ bx1 - ax1) (c1 : bx1 - ax1 ≤ 2199023255552)
    (b2 : -2199023255552 ≤ bx2 - ax2) (c2 : bx2 - ax2 ≤ 2199023255552)
    (e0 : floatOfInt FloatKind.f64 (bx0 - ax0) = D0) (e1 : floatOfInt FloatKind.f64 (bx1 - ax1) = D1) (e2 : floatOfInt FloatKind.f64 (bx2 - ax2) = D2)
    (m0 : ∀ u, (binOp .mul 23 (.float .f64 D0) (.float .f64 D0)).run Try.prog u = .ok (.float .f64 Q0) u)
    (m1 : ∀ u, (binOp .mul 23 (.float .f64 D1) (.float .f64 D1)).run Try.prog u = .ok (.float .f64 Q1) u)
    (m2 : ∀ u, (binOp .mul 23 (.float .f64 D2) (.float .f64 D2)).run Try.prog u = .ok (.float .f64 Q2) u)
    (a0 : ∀ u, (binOp .add 23 (.float .f64 4697254411347427328) (.float .f64 Q0)).run Try.prog u = .ok (.float .f64 L0) u)
    (a1 : ∀ u, (binOp .add 23 (.float .f64 L0) (.float .f64 Q1)).run Try.prog u = .ok (.float .f64 L1) u)
    (a2 : ∀ u, (binOp .add 23 (.float .f64 L1) (.float .f64 Q2)).run Try.prog u = .ok (.float .f64 L2) u)
    (hmm0 : IntKind.i64.wrap (am * bm) = mm) (f0 : ∀ u, (binOp .mul 23 (.float .f64 g) (.float .f64 (floatOfInt FloatKind.f64 mm))).run Try.prog u = .ok (.float .f64 G) u)
    (f1 : double.sqrt L2 = some S)
    (f2 : ∀ u, (binOp .mul 23 (.float .f64 L2) (.float .f64 S)).run Try.prog u = .ok (.float .f64 T) u)
    (f3 : ∀ u, (binOp .quo 23 (.float .f64 G) (.float .f64 T)).run Try.prog u = .ok (.float .f64 F) u)
    (x0 : ∀ u, (binOp .mul 23 (.float .f64 F) (.float .f64 D0)).run Try.prog u = .ok (.float .f64 X0) u)
    (x1 : ∀ u, (binOp .mul 23 (.float .f64 F) (.float .f64 D1)).run Try.prog u = .ok (.float .f64 X1) u)
    (x2 : ∀ u, (binOp .mul 23 (.float .f64 F) (.float .f64 D2)).run Try.prog u = .ok (.float .f64 X2) u)
    (t0 : (o64 X0 4751297606875873280 == some .gt) = h0) (t1 : (o64 X1 4751297606875873280 == some .gt) = h1) (t2 : (o64 X2 4751297606875873280 == some .gt) = h2)
    (s0 : (o64 X0 13974669643730649088 == some .lt) = l0) (s1 : (o64 X1 13974669643730649088 == some .lt) = l1) (s2 : (o64 X2 13974669643730649088 == some .lt) = l2)
    (y0 : Y0 = if h0 then 4751297606875873280 else if l0 then 13974669643730649088 else X0) (y1 : Y1 = if h1 then 4751297606875873280 else if l1 then 13974669643730649088 else X1) (y2 : Y2 = if h2 then 4751297606875873280 else if l2 then 13974669643730649088 else X2)
    (r0 : ∀ u, Calls Try.prog 31 #[.float .f64 Y0] u fun e w' => e = .returned (.int .i64 p0) ∧ u = w')
    (r1 : ∀ u, Calls Try.prog 31 #[.float .f64 Y1] u fun e w' => e = .returned (.int .i64 p1) ∧ u = w')
    (r2 : ∀ u, Calls Try.prog 31 #[.float .f64 Y2] u fun e w' => e = .returned (.int .i64 p2) ∧ u = w') :
    Calls Try.prog 32 #[.agg #[.int .i64 am, .int .i64 ax0, .int .i64 ax1, .int .i64 ax2, .int .i64 ap0, .int .i64 ap1, .int .i64 ap2], .agg #[.int .i64 bm, .int .i64 bx0, .int .i64 bx1, .int .i64 bx2, .int .i64 bp0, .int .i64 bp1, .int .i64 bp2], .float .f64 g] w
      fun e w' => e = .returned (.agg #[.int .i64 p0, .int .i64 p1, .int .i64 p2]) ∧ Below w.heap.size w w' := by
  have hst := run_store_flt
  have hff0 : (o64 4751297606875873280 13974669643730649088 == some .lt) = false := by decide +kernel
  have F1 := Lib.hid f1
  clear f1
  go_enter Try.func32, Try.ntmps32
  go_wp2_with fail
  refine wp_loop_rounds 4 ?_
  rw [rounds_succ]
  go_wp2_with fail
  go_region
  go_wp2_with fail
  go_region
  go_wp2_with fail
  rw [rounds_succ]
  go_wp2_with fail
  go_region
  go_wp2_with fail
  go_region
  go_wp2_with fail
  rw [rounds_succ]
  go_wp2_with fail
  go_region
  go_wp2_with fail
  go_region
  go_wp2_with fail
  rw [rounds_succ]
  go_wp2_with fail
  go_quiet ((go_at_call 24; refine (sqrt_any F1.out _).mono ?_; rintro e w'' ⟨rfl, rfl⟩; exact ⟨rfl, _, rfl⟩))
  go_wp2_with fail
  go_loopw [52] (fun vi wr => ∃ k : Nat, k ≤ 3 ∧ vi = .int .i64 k ∧ ∃ n1, wr = (((((w.alloc (.cells #[.int .i64 am, .int .i64 ax0, .int .i64 ax1, .int .i64 ax2, .int .i64 ap0, .int .i64 ap1, .int .i64 ap2] 40)).alloc (.cells #[.int .i64 bm, .int .i64 bx0, .int .i64 bx1, .int .i64 bx2, .int .i64 bp0, .int .i64 bp1, .int .i64 bp2] 40)).alloc (.cells #[.int .i64 0, .int .i64 0, .int .i64 0] 26)).alloc (.cells #[.float .f64 D0, .float .f64 D1, .float .f64 D2] 52)).drewN n1).alloc (.cells (outL p0 p1 p2 k) 26)) (fun vi _ => 3 - (intOf vi).toNat)
  case atStart => exact ⟨0, by omega, rfl, _, rfl⟩
  case round =>
    obtain ⟨k, hk, rfl, n1, rfl⟩ := hrel
    have hkk : k = 0 ∨ k = 1 ∨ k = 2 ∨ k = 3 := by omega
    rcases hkk with hkk | hkk | hkk | hkk
    · obtain rfl : k = 0 := by omega
      clear hkk
      have R1 := Lib.hid r0
      have R2 := Lib.hid r1
      have R3 := Lib.hid r2
      have Z1 := Lib.hid y0
      have Z2 := Lib.hid y1
      have Z3 := Lib.hid y2
      clear r0 r1 r2 y0 y1 y2
      cases h0 <;> cases l0
      · have r := R1.out
        rw [Z1.out] at r
        simp only [if_false, Bool.false_eq_true] at r
        have ho : outL p0 p1 p2 0 = #[.int .i64 0, .int .i64 0, .int .i64 0] := rfl
        rw [ho]
        clear ho
        go_wp2_with (first | (go_at_call 31; refine (r _).mono ?_; rintro e w' ⟨rfl, rfl⟩))
        go_roundw
        case rel => exact ⟨1, by omega, rfl, ⟨_, rfl⟩⟩
        case measure => first | (simp [intOf]; done) | (simp [intOf]; omega)
      · have r := R1.out
        rw [Z1.out] at r
        simp only [if_true, if_false, Bool.false_eq_true] at r
        have ho : outL p0 p1 p2 0 = #[.int .i64 0, .int .i64 0, .int .i64 0] := rfl
        rw [ho]
        clear ho
        go_wp2_with (first | (go_at_call 31; refine (r _).mono ?_; rintro e w' ⟨rfl, rfl⟩))
        go_roundw
        case rel => exact ⟨1, by omega, rfl, ⟨_, rfl⟩⟩
        case measure => first | (simp [intOf]; done) | (simp [intOf]; omega)
      · have r := R1.out
        rw [Z1.out] at r
        simp only [if_true] at r
        have ho : outL p0 p1 p2 0 = #[.int .i64 0, .int .i64 0, .int .i64 0] := rfl
        rw [ho]
        clear ho
        go_wp2_with (first | (go_at_call 31; refine (r _).mono ?_; rintro e w' ⟨rfl, rfl⟩))
        go_roundw
        case rel => exact ⟨1, by omega, rfl, ⟨_, rfl⟩⟩
        case measure => first | (simp [intOf]; done) | (simp [intOf]; omega)
      · have r := R1.out
        rw [Z1.out] at r
        simp only [if_true] at r
        have ho : outL p0 p1 p2 0 = #[.int .i64 0, .int .i64 0, .int .i64 0] := rfl
        rw [ho]
        clear ho
        go_wp2_with (first | (go_at_call 31; refine (r _).mono ?_; rintro e w' ⟨rfl, rfl⟩))
        go_roundw
        case rel => exact ⟨1, by omega, rfl, ⟨_, rfl⟩⟩
        case measure => first | (simp [intOf]; done) | (simp [intOf]; omega)
    · obtain rfl : k = 1 := by omega
      clear hkk
      have R1 := Lib.hid r0
      have R2 := Lib.hid r1
      have R3 := Lib.hid r2
      have Z1 := Lib.hid y0
      have Z2 := Lib.hid y1
      have Z3 := Lib.hid y2
      clear r0 r1 r2 y0 y1 y2
      cases h1 <;> cases l1
      · have r := R2.out
        rw [Z2.out] at r
        simp only [if_false, Bool.false_eq_true] at r
        have ho : outL p0 p1 p2 1 = #[.int .i64 p0, .int .i64 0, .int .i64 0] := rfl
        rw [ho]
        clear ho
        go_wp2_with (first | (go_at_call 31; refine (r _).mono ?_; rintro e w' ⟨rfl, rfl⟩))
        go_roundw
        case rel => exact ⟨2, by omega, rfl, ⟨_, rfl⟩⟩
        case measure => first | (simp [intOf]; done) | (simp [intOf]; omega)
      · have r := R2.out
        rw [Z2.out] at r
        simp only [if_true, if_false, Bool.false_eq_true] at r
        have ho : outL p0 p1 p2 1 = #[.int .i64 p0, .int .i64 0, .int .i64 0] := rfl
        rw [ho]
        clear ho
        go_wp2_with (first | (go_at_call 31; refine (r _).mono ?_; rintro e w' ⟨rfl, rfl⟩))
        go_roundw
        case rel => exact ⟨2, by omega, rfl, ⟨_, rfl⟩⟩
        case measure => first | (simp [intOf]; done) | (simp [intOf]; omega)
      · have r := R2.out
        rw [Z2.out] at r
        simp only [if_true] at r
        have ho : outL p0 p1 p2 1 = #[.int .i64 p0, .int .i64 0, .int .i64 0] := rfl
        rw [ho]
        clear ho
        go_wp2_with (first | (go_at_call 31; refine (r _).mono ?_; rintro e w' ⟨rfl, rfl⟩))
        go_roundw
        case rel => exact ⟨2, by omega, rfl, ⟨_, rfl⟩⟩
        case measure => first | (simp [intOf]; done) | (simp [intOf]; omega)
      · have r := R2.out
        rw [Z2.out] at r
        simp only [if_true] at r
        have ho : outL p0 p1 p2 1 = #[.int .i64 p0, .int .i64 0, .int .i64 0] := rfl
        rw [ho]
        clear ho
        go_wp2_with (first | (go_at_call 31; refine (r _).mono ?_; rintro e w' ⟨rfl, rfl⟩))
        go_roundw
        case rel => exact ⟨2, by omega, rfl, ⟨_, rfl⟩⟩
        case measure => first | (simp [intOf]; done) | (simp [intOf]; omega)
    · obtain rfl : k = 2 := by omega
      clear hkk
      have R1 := Lib.hid r0
      have R2 := Lib.hid r1
      have R3 := Lib.hid r2
      have Z1 := Lib.hid y0
      have Z2 := Lib.hid y1
      have Z3 := Lib.hid y2
      clear r0 r1 r2 y0 y1 y2
      cases h2 <;> cases l2
      · have r := R3.out
        rw [Z3.out] at r
        simp only [if_false, Bool.false_eq_true] at r
        have ho : outL p0 p1 p2 2 = #[.int .i64 p0, .int .i64 p1, .int .i64 0] := rfl
        rw [ho]
        clear ho
        go_wp2_with (first | (go_at_call 31; refine (r _).mono ?_; rintro e w' ⟨rfl, rfl⟩))
        go_roundw
        case rel => exact ⟨3, by omega, rfl, ⟨_, rfl⟩⟩
        case measure => first | (simp [intOf]; done) | (simp [intOf]; omega)
      · have r := R3.out
        rw [Z3.out] at r
        simp only [if_true, if_false, Bool.false_eq_true] at r
        have ho : outL p0 p1 p2 2 = #[.int .i64 p0, .int .i64 p1, .int .i64 0] := rfl
        rw [ho]
        clear ho
        go_wp2_with (first | (go_at_call 31; refine (r _).mono ?_; rintro e w' ⟨rfl, rfl⟩))
        go_roundw
        case rel => exact ⟨3, by omega, rfl, ⟨_, rfl⟩⟩
        case measure => first | (simp [intOf]; done) | (simp [intOf]; omega)
      · have r := R3.out
        rw [Z3.out] at r
        simp only [if_true] at r
        have ho : outL p0 p1 p2 2 = #[.int .i64 p0, .int .i64 p1, .int .i64 0] := rfl
        rw [ho]
        clear ho
        go_wp2_with (first | (go_at_call 31; refine (r _).mono ?_; rintro e w' ⟨rfl, rfl⟩))
        go_roundw
        case rel => exact ⟨3, by omega, rfl, ⟨_, rfl⟩⟩
        case measure => first | (simp [intOf]; done) | (simp [intOf]; omega)
      · have r := R3.out
        rw [Z3.out] at r
        simp only [if_true] at r
        have ho : outL p0 p1 p2 2 = #[.int .i64 p0, .int .i64 p1, .int .i64 0] := rfl
        rw [ho]
        clear ho
        go_wp2_with (first | (go_at_call 31; refine (r _).mono ?_; rintro e w' ⟨rfl, rfl⟩))
        go_roundw
        case rel => exact ⟨3, by omega, rfl, ⟨_, rfl⟩⟩
        case measure => first | (simp [intOf]; done) | (simp [intOf]; omega)
    · subst hkk
      clear r0 r1 r2 y0 y1 y2
      have ho : outL p0 p1 p2 3 = #[.int .i64 p0, .int .i64 p1, .int .i64 p2] := rfl
      rw [ho]
      clear ho
      go_wp2_with fail
      refine bodyPost_ret (v := .agg #[.int .i64 p0, .int .i64 p1, .int .i64 p2]) (by simp [results, Try.results32, go_sem]) rfl ⟨rfl, ?_⟩
      exact Below.alloc (Below.setCell (Below.setCell (Below.setCell (below_drw (Below.alloc (Below.alloc (Below.alloc (Below.alloc (Below.refl _ _) (Nat.le_refl _) _) (by first | (simp; done) | (simp; omega)) _) (by first | (simp; done) | (simp; omega)) _) (by first | (simp; done) | (simp; omega)) _) _) (by first | (simp; done) | (simp; omega)) _) (by first | (simp; done) | (simp; omega)) _) (by first | (simp; done) | (simp; omega)) _) (by first | (simp; done) | (simp; omega)) _

set_option maxRecDepth 20000 in
set_option maxHeartbeats 2000000 in
theorem pullR_raw (am ax0 ax1 ax2 ap0 ap1 ap2 bm bx0 bx1 bx2 bp0 bp1 bp2 : Int) (g : Nat) (w : World)
    (D0 D1 D2 Q0 Q1 Q2 L0 L1 L2 G S T F X0 X1 X2 Y0 Y1 Y2 : Nat) (p0 p1 p2 mm : Int) (h0 h1 h2 l0 l1 l2 : Bool)
    (b0 : -2199023255552 ≤ bx0 - ax0) (c0 : bx0 - ax0 ≤ 2199023255552)
    (b1 : -2199023255552 ≤ bx1 - ax1) (c1 : bx1 - ax1 ≤ 2199023255552)
    (b2 : -2199023255552 ≤ bx2 - ax2) (c2 : bx2 - ax2 ≤ 2199023255552)
    (e0 : floatOfInt FloatKind.f64 (bx0 - ax0) = D0) (e1 : floatOfInt FloatKind.f64 (bx1 - ax1) = D1) (e2 : floatOfInt FloatKind.f64 (bx2 - ax2) = D2)
    (m0 : ∀ u, (binOp .mul 23 (.float .f64 D0) (.float .f64 D0)).run Try.prog u = .ok (.float .f64 Q0) u)
    (m1 : ∀ u, (binOp .mul 23 (.float .f64 D1) (.float .f64 D1)).run Try.prog u = .ok (.float .f64 Q1) u)
    (m2 : ∀ u, (binOp .mul 23 (.float .f64 D2) (.float .f64 D2)).run Try.prog u = .ok (.float .f64 Q2) u)
    (a0 : ∀ u, (binOp .add 23 (.float .f64 4697254411347427328) (.float .f64 Q0)).run Try.prog u = .ok (.float .f64 L0) u)
    (a1 : ∀ u, (binOp .add 23 (.float .f64 L0) (.float .f64 Q1)).run Try.prog u = .ok (.float .f64 L1) u)
    (a2 : ∀ u, (binOp .add 23 (.float .f64 L1) (.float .f64 Q2)).run Try.prog u = .ok (.float .f64 L2) u)
    (hmm0 : IntKind.i64.wrap (am * bm) = mm) (f0 : ∀ u, (binOp .mul 23 (.float .f64 g) (.float .f64 (floatOfInt FloatKind.f64 mm))).run Try.prog u = .ok (.float .f64 G) u)
    (f1 : double.sqrt L2 = some S)
    (f2 : ∀ u, (binOp .mul 23 (.float .f64 L2) (.float .f64 S)).run Try.prog u = .ok (.float .f64 T) u)
    (f3 : ∀ u, (binOp .quo 23 (.float .f64 G) (.float .f64 T)).run Try.prog u = .ok (.float .f64 F) u)
    (x0 : ∀ u, (binOp .mul 23 (.float .f64 F) (.float .f64 D0)).run Try.prog u = .ok (.float .f64 X0) u)
    (x1 : ∀ u, (binOp .mul 23 (.float .f64 F) (.float .f64 D1)).run Try.prog u = .ok (.float .f64 X1) u)
    (x2 : ∀ u, (binOp .mul 23 (.float .f64 F) (.float .f64 D2)).run Try.prog u = .ok (.float .f64 X2) u)
    (t0 : (o64 X0 4751297606875873280 == some .gt) = h0) (t1 : (o64 X1 4751297606875873280 == some .gt) = h1) (t2 : (o64 X2 4751297606875873280 == some .gt) = h2)
    (s0 : (o64 X0 13974669643730649088 == some .lt) = l0) (s1 : (o64 X1 13974669643730649088 == some .lt) = l1) (s2 : (o64 X2 13974669643730649088 == some .lt) = l2)
    (y0 : Y0 = if h0 then 4751297606875873280 else if l0 then 13974669643730649088 else X0) (y1 : Y1 = if h1 then 4751297606875873280 else if l1 then 13974669643730649088 else X1) (y2 : Y2 = if h2 then 4751297606875873280 else if l2 then 13974669643730649088 else X2)
    (r0 : ∀ u, Calls Try.prog 33 #[.float .f64 Y0] u fun e w' => e = .returned (.int .i64 p0) ∧ u = w')
    (r1 : ∀ u, Calls Try.prog 33 #[.float .f64 Y1] u fun e w' => e = .returned (.int .i64 p1) ∧ u = w')
    (r2 : ∀ u, Calls Try.prog 33 #[.float .f64 Y2] u fun e w' => e = .returned (.int .i64 p2) ∧ u = w') :
    Calls Try.prog 34 #[.agg #[.int .i64 am, .int .i64 ax0, .int .i64 ax1, .int .i64 ax2, .int .i64 ap0, .int .i64 ap1, .int .i64 ap2], .agg #[.int .i64 bm, .int .i64 bx0, .int .i64 bx1, .int .i64 bx2, .int .i64 bp0, .int .i64 bp1, .int .i64 bp2], .float .f64 g] w
      fun e w' => e = .returned (.agg #[.int .i64 p0, .int .i64 p1, .int .i64 p2]) ∧ Below w.heap.size w w' := by
  have hst := run_store_flt
  have hff0 : (o64 4751297606875873280 13974669643730649088 == some .lt) = false := by decide +kernel
  have F1 := Lib.hid f1
  clear f1
  go_enter Try.func34, Try.ntmps34
  go_wp2_with fail
  refine wp_loop_rounds 4 ?_
  rw [rounds_succ]
  go_wp2_with fail
  go_region
  go_wp2_with fail
  go_region
  go_wp2_with fail
  rw [rounds_succ]
  go_wp2_with fail
  go_region
  go_wp2_with fail
  go_region
  go_wp2_with fail
  rw [rounds_succ]
  go_wp2_with fail
  go_region
  go_wp2_with fail
  go_region
  go_wp2_with fail
  rw [rounds_succ]
  go_wp2_with fail
  go_quiet ((go_at_call 24; refine (sqrt_any F1.out _).mono ?_; rintro e w'' ⟨rfl, rfl⟩; exact ⟨rfl, _, rfl⟩))
  go_wp2_with fail
  go_loopw [12] (fun vi wr => ∃ k : Nat, k ≤ 3 ∧ vi = .int .i64 k ∧ ∃ n1, wr = (((((w.alloc (.cells #[.int .i64 am, .int .i64 ax0, .int .i64 ax1, .int .i64 ax2, .int .i64 ap0, .int .i64 ap1, .int .i64 ap2] 40)).alloc (.cells #[.int .i64 bm, .int .i64 bx0, .int .i64 bx1, .int .i64 bx2, .int .i64 bp0, .int .i64 bp1, .int .i64 bp2] 40)).alloc (.cells #[.int .i64 0, .int .i64 0, .int .i64 0] 26)).alloc (.cells #[.float .f64 D0, .float .f64 D1, .float .f64 D2] 52)).drewN n1).alloc (.cells (outL p0 p1 p2 k) 26)) (fun vi _ => 3 - (intOf vi).toNat)
  case atStart => exact ⟨0, by omega, rfl, _, rfl⟩
  case round =>
    obtain ⟨k, hk, rfl, n1, rfl⟩ := hrel
    have hkk : k = 0 ∨ k = 1 ∨ k = 2 ∨ k = 3 := by omega
    rcases hkk with hkk | hkk | hkk | hkk
    · obtain rfl : k = 0 := by omega
      clear hkk
      have R1 := Lib.hid r0
      have R2 := Lib.hid r1
      have R3 := Lib.hid r2
      have Z1 := Lib.hid y0
      have Z2 := Lib.hid y1
      have Z3 := Lib.hid y2
      clear r0 r1 r2 y0 y1 y2
      cases h0 <;> cases l0
      · have r := R1.out
        rw [Z1.out] at r
        simp only [if_false, Bool.false_eq_true] at r
        have ho : outL p0 p1 p2 0 = #[.int .i64 0, .int .i64 0, .int .i64 0] := rfl
        rw [ho]
        clear ho
        go_wp2_with (first | (go_at_call 33; refine (r _).mono ?_; rintro e w' ⟨rfl, rfl⟩))
        go_roundw
        case rel => exact ⟨1, by omega, rfl, ⟨_, rfl⟩⟩
        case measure => first | (simp [intOf]; done) | (simp [intOf]; omega)
      · have r := R1.out
        rw [Z1.out] at r
        simp only [if_true, if_false, Bool.false_eq_true] at r
        have ho : outL p0 p1 p2 0 = #[.int .i64 0, .int .i64 0, .int .i64 0] := rfl
        rw [ho]
        clear ho
        go_wp2_with (first | (go_at_call 33; refine (r _).mono ?_; rintro e w' ⟨rfl, rfl⟩))
        go_roundw
        case rel => exact ⟨1, by omega, rfl, ⟨_, rfl⟩⟩
        case measure => first | (simp [intOf]; done) | (simp [intOf]; omega)
      · have r := R1.out
        rw [Z1.out] at r
        simp only [if_true] at r
        have ho : outL p0 p1 p2 0 = #[.int .i64 0, .int .i64 0, .int .i64 0] := rfl
        rw [ho]
        clear ho
        go_wp2_with (first | (go_at_call 33; refine (r _).mono ?_; rintro e w' ⟨rfl, rfl⟩))
        go_roundw
        case rel => exact ⟨1, by omega, rfl, ⟨_, rfl⟩⟩
        case measure => first | (simp [intOf]; done) | (simp [intOf]; omega)
      · have r := R1.out
        rw [Z1.out] at r
        simp only [if_true] at r
        have ho : outL p0 p1 p2 0 = #[.int .i64 0, .int .i64 0, .int .i64 0] := rfl
        rw [ho]
        clear ho
        go_wp2_with (first | (go_at_call 33; refine (r _).mono ?_; rintro e w' ⟨rfl, rfl⟩))
        go_roundw
        case rel => exact ⟨1, by omega, rfl, ⟨_, rfl⟩⟩
        case measure => first | (simp [intOf]; done) | (simp [intOf]; omega)
    · obtain rfl : k = 1 := by omega
      clear hkk
      have R1 := Lib.hid r0
      have R2 := Lib.hid r1
      have R3 := Lib.hid r2
      have Z1 := Lib.hid y0
      have Z2 := Lib.hid y1
      have Z3 := Lib.hid y2
      clear r0 r1 r2 y0 y1 y2
      cases h1 <;> cases l1
      · have r := R2.out
        rw [Z2.out] at r
        simp only [if_false, Bool.false_eq_true] at r
        have ho : outL p0 p1 p2 1 = #[.int .i64 p0, .int .i64 0, .int .i64 0] := rfl
        rw [ho]
        clear ho
        go_wp2_with (first | (go_at_call 33; refine (r _).mono ?_; rintro e w' ⟨rfl, rfl⟩))
        go_roundw
        case rel => exact ⟨2, by omega, rfl, ⟨_, rfl⟩⟩
        case measure => first | (simp [intOf]; done) | (simp [intOf]; omega)
      · have r := R2.out
        rw [Z2.out] at r
        simp only [if_true, if_false, Bool.false_eq_true] at r
        have ho : outL p0 p1 p2 1 = #[.int .i64 p0, .int .i64 0, .int .i64 0] := rfl
        rw [ho]
        clear ho
        go_wp2_with (first | (go_at_call 33; refine (r _).mono ?_; rintro e w' ⟨rfl, rfl⟩))
        go_roundw
        case rel => exact ⟨2, by omega, rfl, ⟨_, rfl⟩⟩
        case measure => first | (simp [intOf]; done) | (simp [intOf]; omega)
      · have r := R2.out
        rw [Z2.out] at r
        simp only [if_true] at r
        have ho : outL p0 p1 p2 1 = #[.int .i64 p0, .int .i64 0, .int .i64 0] := rfl
        rw [ho]
        clear ho
        go_wp2_with (first | (go_at_call 33; refine (r _).mono ?_; rintro e w' ⟨rfl, rfl⟩))
        go_roundw
        case rel => exact ⟨2, by omega, rfl, ⟨_, rfl⟩⟩
        case measure => first | (simp [intOf]; done) | (simp [intOf]; omega)
      · have r := R2.out
        rw [Z2.out] at r
        simp only [if_true] at r
        have ho : outL p0 p1 p2 1 = #[.int .i64 p0, .int .i64 0, .int .i64 0] := rfl
        rw [ho]
        clear ho
        go_wp2_with (first | (go_at_call 33; refine (r _).mono ?_; rintro e w' ⟨rfl, rfl⟩))
        go_roundw
        case rel => exact ⟨2, by omega, rfl, ⟨_, rfl⟩⟩
        case measure => first | (simp [intOf]; done) | (simp [intOf]; omega)
    · obtain rfl : k = 2 := by omega
      clear hkk
      have R1 := Lib.hid r0
      have R2 := Lib.hid r1
      have R3 := Lib.hid r2
      have Z1 := Lib.hid y0
      have Z2 := Lib.hid y1
      have Z3 := Lib.hid y2
      clear r0 r1 r2 y0 y1 y2
      cases h2 <;> cases l2
      · have r := R3.out
        rw [Z3.out] at r
        simp only [if_false, Bool.false_eq_true] at r
        have ho : outL p0 p1 p2 2 = #[.int .i64 p0, .int .i64 p1, .int .i64 0] := rfl
        rw [ho]
        clear ho
        go_wp2_with (first | (go_at_call 33; refine (r _).mono ?_; rintro e w' ⟨rfl, rfl⟩))
        go_roundw
        case rel => exact ⟨3, by omega, rfl, ⟨_, rfl⟩⟩
        case measure => first | (simp [intOf]; done) | (simp [intOf]; omega)
      · have r := R3.out
        rw [Z3.out] at r
        simp only [if_true, if_false, Bool.false_eq_true] at r
        have ho : outL p0 p1 p2 2 = #[.int .i64 p0, .int .i64 p1, .int .i64 0] := rfl
        rw [ho]
        clear ho
        go_wp2_with (first | (go_at_call 33; refine (r _).mono ?_; rintro e w' ⟨rfl, rfl⟩))
        go_roundw
        case rel => exact ⟨3, by omega, rfl, ⟨_, rfl⟩⟩
        case measure => first | (simp [intOf]; done) | (simp [intOf]; omega)
      · have r := R3.out
        rw [Z3.out] at r
        simp only [if_true] at r
        have ho : outL p0 p1 p2 2 = #[.int .i64 p0, .int .i64 p1, .int .i64 0] := rfl
        rw [ho]
        clear ho
        go_wp2_with (first | (go_at_call 33; refine (r _).mono ?_; rintro e w' ⟨rfl, rfl⟩))
        go_roundw
        case rel => exact ⟨3, by omega, rfl, ⟨_, rfl⟩⟩
        case measure => first | (simp [intOf]; done) | (simp [intOf]; omega)
      · have r := R3.out
        rw [Z3.out] at r
        simp only [if_true] at r
        have ho : outL p0 p1 p2 2 = #[.int .i64 p0, .int .i64 p1, .int .i64 0] := rfl
        rw [ho]
        clear ho
        go_wp2_with (first | (go_at_call 33; refine (r _).mono ?_; rintro e w' ⟨rfl, rfl⟩))
        go_roundw
        case rel => exact ⟨3, by omega, rfl, ⟨_, rfl⟩⟩
        case measure => first | (simp [intOf]; done) | (simp [intOf]; omega)
    · subst hkk
      clear r0 r1 r2 y0 y1 y2
      have ho : outL p0 p1 p2 3 = #[.int .i64 p0, .int .i64 p1, .int .i64 p2] := rfl
      rw [ho]
      clear ho
      go_wp2_with fail
      refine bodyPost_ret (v := .agg #[.int .i64 p0, .int .i64 p1, .int .i64 p2]) (by simp [results, Try.results34, go_sem]) rfl ⟨rfl, ?_⟩
      exact Below.alloc (Below.setCell (Below.setCell (Below.setCell (below_drw (Below.alloc (Below.alloc (Below.alloc (Below.alloc (Below.refl _ _) (Nat.le_refl _) _) (by first | (simp; done) | (simp; omega)) _) (by first | (simp; done) | (simp; omega)) _) (by first | (simp; done) | (simp; omega)) _) _) (by first | (simp; done) | (simp; omega)) _) (by first | (simp; done) | (simp; omega)) _) (by first | (simp; done) | (simp; omega)) _) (by first | (simp; done) | (simp; omega)) _
end Go.Proofs.Ytjapohjfheielaa
