/- Walks: what is fit; a list looked through. Conditions: the list lies in memory. -/
import Derived.Test.YtlegkefonpiakaaT1
import Derived.Test.YtlegkefonpiakaaBit
import Derived.Lib.Hide
namespace Go.Proofs.Ytlegkefonpiakaa
open Go.RowKit

abbrev o64 (x y : Nat) : Option Ordering := FloatKind.f64.format.order x y
theorem ret_i {k : IntKind} {a b : Int} (h : a = b) : Ending.returned (.int k a) = .returned (.int k b) := by rw [h]
theorem ret_b {a b : Bool} (h : a = b) : Ending.returned (.bool a) = .returned (.bool b) := by rw [h]

theorem abs_core (R : Nat → Nat) (eR : ∀ a : Nat, bits .andNot .u64 (a : Int) 9223372036854775808 = (R a : Int)) (x : Nat) (w : World) :
    Calls Try.prog 48 #[.float .f64 x] w fun e w' => e = .returned (.float .f64 (R x)) ∧ w = w' := by
  have e11 := call55
  have e39 := call26
  go_enter Try.func48, Try.ntmps48
  go_wp2
  go_ret
  exact ⟨rfl, rfl⟩
def fitRaw (R : Nat → Nat) (x : Nat) : Bool := (o64 (R x) 0 == some .eq) || ((o64 (R x) 3706462493325918208 == some .gt || o64 (R x) 3706462493325918208 == some .eq) && (o64 (R x) 5507902344274116608 == some .lt || o64 (R x) 5507902344274116608 == some .eq))
theorem fit_core (R : Nat → Nat) (eR : ∀ a : Nat, bits .andNot .u64 (a : Int) 9223372036854775808 = (R a : Int)) (x : Nat) (w : World) :
    Calls Try.prog 37 #[.float .f64 x] w fun e w' => e = .returned (.bool (fitRaw R x)) ∧ w = w' := by
  go_enter Try.func37, Try.ntmps37
  go_wp2_with (first | (go_at_call 48; refine (abs_core R eR _ _).mono ?_; rintro e w' ⟨rfl, rfl⟩))
  all_goals go_ret
  all_goals go_light
  all_goals refine ⟨ret_b ?_, rfl⟩
  all_goals grind [fitRaw]
def fitB (x : Nat) : Bool := fitRaw rg x
theorem fit_any (x : Nat) (w : World) : Calls Try.prog 37 #[.float .f64 x] w fun e w' => e = .returned (.bool (fitB x)) ∧ w = w' := fit_core rg andNot_top x w

def refFitRaw (R : Nat → Nat) (K J E : Nat → Int → Bool) (x : Nat) : Bool := E (R x) 0 || (K (R x) 3706462493325918208 && J (R x) 5507902344274116608)
theorem refFit_core (R : Nat → Nat) (eR : ∀ a : Nat, bits .andNot .u64 (a : Int) 9223372036854775808 = (R a : Int)) (K : Nat → Int → Bool) (eK : ∀ (a : Nat) (c : Int), decide (c ≤ (a : Int)) = K a c) (J : Nat → Int → Bool) (eJ : ∀ (a : Nat) (c : Int), decide ((a : Int) ≤ c) = J a c) (E : Nat → Int → Bool) (eE : ∀ (a : Nat) (c : Int), ((a : Int) == c) = E a c) (x : Nat) (w : World) :
    Calls Try.prog 10 #[.float .f64 x] w fun e w' => e = .returned (.bool (refFitRaw R K J E x)) ∧ w = w' := by
  have e39 := call26
  go_enter Try.func10, Try.ntmps10
  go_wp2
  all_goals go_ret
  all_goals clear e39
  all_goals go_light
  all_goals refine ⟨ret_b ?_, rfl⟩
  all_goals simp_all [refFitRaw]

/-- a list looked through: 2 too long, 3 a number that isn't fit, 0 -/
def checkFrom (F : Nat → Bool) (l : List Nat) (k : Nat) : Int := if (l.drop k).all F then 0 else 3
def checkL (F : Nat → Bool) (l : List Nat) : Int := if 256 < l.length then 2 else checkFrom F l 0

theorem checkFrom_end (F : Nat → Bool) (l : List Nat) : checkFrom F l l.length = 0 := by simp [checkFrom]
theorem checkFrom_yes {F : Nat → Bool} {l : List Nat} {k : Nat} (hk : k < l.length) (h : F (l.getD k 0) = true) : checkFrom F l k = checkFrom F l (k + 1) := by
  have e : l.getD k 0 = l[k] := by simp [List.getD, List.getElem?_eq_getElem hk]
  rw [e] at h
  unfold checkFrom; rw [List.drop_eq_getElem_cons hk, List.all_cons, h]; rfl
theorem checkFrom_no {F : Nat → Bool} {l : List Nat} {k : Nat} (hk : k < l.length) (h : F (l.getD k 0) = false) : checkFrom F l k = 3 := by
  have e : l.getD k 0 = l[k] := by simp [List.getD, List.getElem?_eq_getElem hk]
  rw [e] at h
  unfold checkFrom; rw [List.drop_eq_getElem_cons hk, List.all_cons, h]; rfl

/-- a list in memory -/
def Lies (w : World) (b off : Nat) (l : List Nat) : Prop := ∀ i, i < l.length → w.cell? ⟨b, off + i, none⟩ = some (.float .f64 (l.getD i 0))

theorem check_any (F : Nat → Bool) (hF : ∀ (x : Nat) (w : World), Calls Try.prog 37 #[.float .f64 x] w fun e w' => e = .returned (.bool (F x)) ∧ w = w')
    (b off cap len : Nat) (l : List Nat) (hl : len = l.length) (w : World) (hm : len ≤ 9223372036854775807) (hc : Lies w b off l) :
    Calls Try.prog 27 #[.slice (some ⟨b, off, none⟩) len cap] w fun e w' => e = .returned (.int .i64 (checkL F l)) ∧ w = w' := by
  subst hl
  by_cases h : 256 < l.length
  · have e : checkL F l = 2 := by unfold checkL; rw [if_pos h]
    rw [e]
    go_enter Try.func27, Try.ntmps27
    go_wp2
    go_ret
    exact ⟨rfl, rfl⟩
  · have e : checkL F l = checkFrom F l 0 := by unfold checkL; rw [if_neg h]
    rw [e]
    have HC := Lib.hid hc
    clear hc e
    go_enter Try.func27, Try.ntmps27
    go_wp2
    go_loop [10] (fun i => ∃ k : Nat, k ≤ l.length ∧ i = .int .i64 k ∧ checkFrom F l 0 = checkFrom F l k) (fun i => l.length - (intOf i).toNat)
    case atStart => exact ⟨0, Nat.zero_le _, rfl, rfl⟩
    case round =>
      obtain ⟨k, hk, rfl, hrest⟩ := hrel
      have HR := Lib.hid hrest
      clear hrest
      by_cases hlt : k < l.length
      · have hcell := HC.out k hlt
        obtain ⟨x, hx⟩ : ∃ x, l.getD k 0 = x := ⟨_, rfl⟩
        rw [hx] at hcell
        cases hf : F x
        · have HN := Lib.hid (checkFrom_no (F := F) (l := l) hlt (by rw [hx]; exact hf))
          clear hx
          go_wp2_with (first | (go_at_call 37; refine (hF _ _).mono ?_; rintro e w' ⟨rfl, rfl⟩))
          go_ret
          exact ⟨ret_i (by rw [HR.out, HN.out]), rfl⟩
        · have HY := Lib.hid (checkFrom_yes (F := F) (l := l) hlt (by rw [hx]; exact hf))
          clear hx
          go_wp2_with (first | (go_at_call 37; refine (hF _ _).mono ?_; rintro e w' ⟨rfl, rfl⟩))
          go_round
          case rel => exact ⟨k + 1, by omega, by go_num, by rw [HR.out, HY.out]⟩
          case measure => simp [intOf]; omega
      · go_wp2
        go_ret
        exact ⟨ret_i (by rw [HR.out, show k = l.length from by omega, checkFrom_end]), rfl⟩

theorem check_nil (F : Nat → Bool) (cap : Nat) (w : World) :
    Calls Try.prog 27 #[.slice none 0 cap] w fun e w' => e = .returned (.int .i64 (checkL F [])) ∧ w = w' := by
  have e : checkL F [] = 0 := rfl
  rw [e]
  go_enter Try.func27, Try.ntmps27
  go_wp2
  refine wp_loop_rounds 1 ?_
  rw [rounds_succ]
  go_wp2
  go_ret
  exact ⟨rfl, rfl⟩

end Go.Proofs.Ytlegkefonpiakaa
