/- The walk of tot's 'rounded': an expansion's sum, rounded once. Conditions: the operations are valid. -/
import Derived.Test.YtlegkefonpiakaaT3
namespace Go.Proofs.Ytlegkefonpiakaa
open Go.RowKit

def zb (x : Nat) : Bool := o64 x 0 == some .eq
def lt0 (x : Nat) : Bool := o64 x 0 == some .lt
theorem nz_eq (x : Nat) : nz x = !zb x := rfl

/-- from the greatest on: c numbers are left -/
def roundW (ys : List Nat) : Nat → Nat → Nat → Nat × Nat × Nat
  | 0, s, low => (s, low, 0)
  | c + 1, s, low => if zb low then roundW ys c (twoS s (ys.getD c 0)) (twoE s (ys.getD c 0)) else (s, low, c + 1)
def RoundOk (ys : List Nat) : Nat → Nat → Nat → Prop
  | 0, _, _ => True
  | c + 1, s, low => zb low = true → TwoOk s (ys.getD c 0) ∧ RoundOk ys c (twoS s (ys.getD c 0)) (twoE s (ys.getD c 0))

def tieB (ys : List Nat) (r : Nat × Nat × Nat) : Bool := nz r.2.1 && decide (0 < r.2.2) && (lt0 r.2.1 == lt0 (ys.getD (r.2.2 - 1) 0))
def tieT (r : Nat × Nat × Nat) : Nat := fv .add r.1 (fv .mul 4611686018427387904 r.2.1)
def tieS (ys : List Nat) (r : Nat × Nat × Nat) : Nat := if tieB ys r then (if o64 (fv .sub (tieT r) r.1) (fv .mul 4611686018427387904 r.2.1) == some .eq then tieT r else r.1) else r.1
structure EndOk (ys : List Nat) (r : Nat × Nat × Nat) : Prop where
  h1 : tieB ys r = true → FOk .mul 4611686018427387904 r.2.1 ∧ FOk .add r.1 (fv .mul 4611686018427387904 r.2.1) ∧ FOk .sub (tieT r) r.1
  h2 : FOk .add (tieS ys r) 0

theorem ret_f {k : FloatKind} {a b : Nat} (h : a = b) : Ending.returned (.float k a) = .returned (.float k b) := by rw [h]

set_option maxHeartbeats 2000000 in
theorem rounded_some (g off cap len : Nat) (ys : List Nat) (w : World) (hlen : len = ys.length) (hpos : 0 < len) (hm : len ≤ 9223372036854775807) (hc : Lies w g off ys)
    (hok : RoundOk ys (len - 1) (ys.getD (len - 1) 0) 0) (hend : EndOk ys (roundW ys (len - 1) (ys.getD (len - 1) 0) 0)) :
    Calls Try.prog 29 #[.slice (some ⟨g, off, none⟩) len cap] w fun e w' => e = .returned (.float .f64 (fv .add (tieS ys (roundW ys (len - 1) (ys.getD (len - 1) 0) 0)) 0)) ∧ w = w' := by
  have hlast := hc (len - 1) (by omega)
  obtain ⟨y0, hy0⟩ : ∃ y0, ys.getD (len - 1) 0 = y0 := ⟨_, rfl⟩
  rw [hy0] at hlast hok hend ⊢
  clear hy0
  obtain ⟨m, rfl⟩ : ∃ m, len = m + 1 := ⟨len - 1, by omega⟩
  simp only [Nat.add_sub_cancel] at *
  obtain ⟨R, hR⟩ : ∃ R, roundW ys m y0 0 = R := ⟨_, rfl⟩
  rw [hR] at hend ⊢
  have HR := Lib.hid hR
  have HE := Lib.hid hend
  have HC := Lib.hid hc
  have HO := Lib.hid hok
  have HL := Lib.hid hlen
  clear hR hend hc hok hlen
  have hl0 : ((m : Int) + 1 == 0) = false := by rw [beq_eq_false_iff_ne]; omega
  go_enter Try.func29, Try.ntmps29
  go_wp2
  go_loop [4, 5, 6] (fun vs vl vi => ∃ c s low : Nat, c ≤ m ∧ vi = .int .i64 ((c : Int) - 1) ∧ vs = .float .f64 s ∧ vl = .float .f64 low ∧ roundW ys c s low = R ∧ RoundOk ys c s low) (fun _ _ vi => (intOf vi + 1).toNat)
  case atStart => exact ⟨m, y0, 0, Nat.le_refl _, by congr 1; omega, rfl, rfl, HR.out, HO.out⟩
  case round =>
    obtain ⟨c, s, low, hcm, rfl, rfl, rfl, hr, hk⟩ := hrel
    cases c with
    | zero =>
      have HF : Hid (fv .add (tieS ys R) 0 = fv .add s 0 ∧ FOk .add s 0) := Lib.hid (by
        have e : tieS ys R = s := by
          rw [← hr]; unfold tieS; rw [if_neg]
          · rfl
          · unfold tieB; simp [roundW]
        have h2 := HE.out.h2
        rw [e] at h2 ⊢
        exact ⟨rfl, h2⟩)
      clear hr hk
      have hadd := run_fv HF.out.2
      go_wp2
      all_goals go_ret
      all_goals exact ⟨ret_f HF.out.1.symm, rfl⟩
    | succ c =>
      have hcell := HC.out c (by have := HL.out; omega)
      obtain ⟨y, hy⟩ : ∃ y, ys.getD c 0 = y := ⟨_, rfl⟩
      rw [hy] at hcell
      have HY := Lib.hid hy
      clear hy
      cases hz : zb low
      · -- something is left over
        have hz' : (FloatKind.f64.format.order low 0 == some .eq) = false := hz
        have hz2 : (FloatKind.f64.format.order low 0 != some .eq) = true := by unfold bne; rw [hz']; rfl
        have hRR : R = (s, low, c + 1) := by rw [← hr]; unfold roundW; rw [hz]; rfl
        have HZ := Lib.hid hz
        have HRR := Lib.hid hRR
        clear hr hk hz hRR
        have htie : tieB ys R = (lt0 low == lt0 y) := by
          rw [HRR.out]; unfold tieB
          simp only [nz_eq, HZ.out, Nat.add_sub_cancel, HY.out]; simp
        have HT := Lib.hid htie
        clear htie
        cases ht : (lt0 low == lt0 y)
        · have HF : Hid (fv .add (tieS ys R) 0 = fv .add s 0 ∧ FOk .add s 0) := Lib.hid (by
            have e : tieS ys R = s := by
              unfold tieS; rw [HT.out, ht, HRR.out]; rfl
            have h2 := HE.out.h2
            rw [e] at h2 ⊢
            exact ⟨rfl, h2⟩)
          have ht' : ((FloatKind.f64.format.order low 0 == some .lt) == (FloatKind.f64.format.order y 0 == some .lt)) = false := ht
          have hadd := run_fv HF.out.2
          clear ht
          go_wp2
          all_goals go_ret
          all_goals exact ⟨ret_f HF.out.1.symm, rfl⟩
        · have h1 := HE.out.h1 (by rw [HT.out]; exact ht)
          have o1 : FOk .mul 4611686018427387904 low := by have := h1.1; rw [HRR.out] at this; exact this
          have o2 : FOk .add s (fv .mul 4611686018427387904 low) := by have := h1.2.1; rw [HRR.out] at this; exact this
          have o3 : FOk .sub (tieT R) s := by have := h1.2.2; rw [show R.1 = s from by rw [HRR.out]] at this; exact this
          clear h1
          have HF : Hid (tieS ys R = (if o64 (fv .sub (tieT R) s) (fv .mul 4611686018427387904 low) == some .eq then tieT R else s) ∧ tieT R = fv .add s (fv .mul 4611686018427387904 low)) := Lib.hid (by
            refine ⟨?_, by rw [HRR.out]; rfl⟩
            unfold tieS; rw [HT.out, ht, HRR.out]; rfl)
          have hE2 := HE.out.h2
          have HE2 := Lib.hid hE2
          clear hE2
          have ht' : ((FloatKind.f64.format.order low 0 == some .lt) == (FloatKind.f64.format.order y 0 == some .lt)) = true := ht
          clear ht
          have r1 := run_fv o1
          have r2 := run_fv o2
          have r3 := run_fv o3
          clear o1 o2 o3
          obtain ⟨T, hT⟩ : ∃ T, tieT R = T := ⟨_, rfl⟩
          have hF2 := HF.out.2
          rw [hT] at hF2 r3
          rw [← hF2] at r2
          have HF1 : Hid (tieS ys R = (if o64 (fv .sub T s) (fv .mul 4611686018427387904 low) == some .eq then T else s)) := Lib.hid (by rw [HF.out.1, hT])
          clear hF2 hT HF
          cases he : (o64 (fv .sub T s) (fv .mul 4611686018427387904 low) == some .eq)
          · have he' : (FloatKind.f64.format.order (fv .sub T s) (fv .mul 4611686018427387904 low) == some .eq) = false := he
            have hS : tieS ys R = s := by rw [HF1.out, he]; rfl
            have h2 := HE2.out
            rw [hS] at h2
            have hadd := run_fv h2
            have HS := Lib.hid hS
            clear hS h2 he HF1
            go_wp2
            all_goals go_ret
            all_goals exact ⟨ret_f (by rw [HS.out]), rfl⟩
          · have he' : (FloatKind.f64.format.order (fv .sub T s) (fv .mul 4611686018427387904 low) == some .eq) = true := he
            have hS : tieS ys R = T := by rw [HF1.out, he]; rfl
            have h2 := HE2.out
            rw [hS] at h2
            have hadd := run_fv h2
            have HS := Lib.hid hS
            clear hS h2 he HF1
            go_wp2
            all_goals go_ret
            all_goals exact ⟨ret_f (by rw [HS.out]), rfl⟩
      · have hRR : roundW ys c (twoS s y) (twoE s y) = R := by rw [← hr, ← HY.out]; conv => rhs; unfold roundW
                                                               rw [hz]; rfl
        have hk2 := hk hz
        rw [HY.out] at hk2
        have hz' : (FloatKind.f64.format.order low 0 == some .eq) = true := hz
        have HRR := Lib.hid hRR
        have HK := Lib.hid hk2.2
        have hok := hk2.1
        clear hr hk hz hRR hk2
        go_wp2_with (first | (go_at_call 38; refine (two_any _ _ hok _).mono ?_; rintro e w' ⟨rfl, rfl⟩))
        go_round
        case rel => exact ⟨c, _, _, by omega, by first | rfl | (congr 1; omega), rfl, rfl, HRR.out, HK.out⟩
        case measure => first | (simp [intOf]; done) | (simp [intOf]; omega)

theorem rounded_nil (cap : Nat) (w : World) :
    Calls Try.prog 29 #[.slice none 0 cap] w fun e w' => e = .returned (.float .f64 0) ∧ w = w' := by
  go_enter Try.func29, Try.ntmps29
  go_wp2
  go_ret
  exact ⟨rfl, rfl⟩

theorem rounded_empty (a : Option Addr) (cap : Nat) (w : World) :
    Calls Try.prog 29 #[.slice a 0 cap] w fun e w' => e = .returned (.float .f64 0) ∧ w = w' := by
  go_enter Try.func29, Try.ntmps29
  go_wp2
  go_ret
  exact ⟨rfl, rfl⟩
end Go.Proofs.Ytlegkefonpiakaa
