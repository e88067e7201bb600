/- Walks of layer 3's law: same, agree, the sum from the left, awake. Conditions: none. -/
import Derived.Test.YtlegkefonpiakaaU4
namespace Go.Proofs.Ytlegkefonpiakaa
open Go.RowKit

def sameW (x y : Nat) : Bool := ((x : Int) == (y : Int))
theorem same_any (x y : Nat) (w : World) : Calls Try.prog 21 #[.float .f64 x, .float .f64 y] w fun e w' => e = .returned (.bool (sameW x y)) ∧ w = w' := by
  have e39 := call26
  go_enter Try.func21, Try.ntmps21
  go_wp2
  go_ret
  exact ⟨rfl, rfl⟩

def agreeW (x : Nat) (e : Int) (y : Nat) (f : Int) : Bool := sameW x y && (e == f)
theorem agree_any (x : Nat) (e : Int) (y : Nat) (f : Int) (w : World) :
    Calls Try.prog 12 #[.float .f64 x, .int .i64 e, .float .f64 y, .int .i64 f] w fun r w' => r = .returned (.bool (agreeW x e y f)) ∧ w = w' := by
  cases hs : sameW x y
  · have hc := same_any x y
    rw [hs] at hc
    have ha : agreeW x e y f = false := by unfold agreeW; rw [hs]; rfl
    rw [ha]
    clear hs ha
    go_enter Try.func12, Try.ntmps12
    go_wp2_with (first | (go_at_call 21; refine (hc _).mono ?_; rintro e w' ⟨rfl, rfl⟩))
    go_ret
    exact ⟨rfl, rfl⟩
  · have hc := same_any x y
    rw [hs] at hc
    have ha : agreeW x e y f = (e == f) := by unfold agreeW; rw [hs]; rfl
    rw [ha]
    clear hs ha
    go_enter Try.func12, Try.ntmps12
    go_wp2_with (first | (go_at_call 21; refine (hc _).mono ?_; rintro e w' ⟨rfl, rfl⟩))
    go_ret
    exact ⟨rfl, rfl⟩
theorem agree_same (x : Nat) (e : Int) : agreeW x e x e = true := by unfold agreeW sameW; simp

/-! ### Left -/
def leftW (l : List Nat) (k : Nat) : Nat := (l.take k).foldl (fv .add) 0
theorem leftW_succ {l : List Nat} {k : Nat} (h : k < l.length) : leftW l (k + 1) = fv .add (leftW l k) (l.getD k 0) := by
  have e : l.getD k 0 = l[k] := by simp [List.getD, List.getElem?_eq_getElem h]
  unfold leftW
  rw [e, List.take_succ_eq_append_getElem h, List.foldl_append]; rfl

theorem left_any (F : Nat → Bool) (hF : ∀ (x : Nat) (w : World), Calls Try.prog 37 #[.float .f64 x] w fun e w' => e = .returned (.bool (F x)) ∧ w = w')
    (b off cap len : Nat) (l : List Nat) (w : World) (hlen : len = l.length) (hm : l.length ≤ 9223372036854775807) (hv : Lies w b off l) (hok : checkL F l = 0) (hadd : ∀ k, k < l.length → FOk .add (leftW l k) (l.getD k 0)) :
    Calls Try.prog 23 #[.slice (some ⟨b, off, none⟩) len cap] w fun e w' => e = .returned (.tuple #[.float .f64 (leftW l l.length), .int .i64 0]) ∧ w = w' := by
  have hck := check_any F hF b off cap len l hlen w (by omega) hv
  rw [hok] at hck
  rw [← hlen]
  have hm' : len ≤ 9223372036854775807 := by omega
  clear hm
  have HV := Lib.hid hv
  have HA := Lib.hid hadd
  have HL := Lib.hid hlen
  clear hv hok hadd hlen
  go_enter Try.func23, Try.ntmps23
  go_wp2_with (first | (go_at_call 27; refine hck.mono ?_; rintro e w' ⟨rfl, rfl⟩))
  clear hck
  go_loop [5, 15] (fun vs vi => ∃ k : Nat, k ≤ len ∧ vi = .int .i64 k ∧ vs = .float .f64 (leftW l k)) (fun _ vi => len - (intOf vi).toNat)
  case atStart => exact ⟨0, Nat.zero_le _, rfl, rfl⟩
  case round =>
    obtain ⟨k, hk, rfl, rfl⟩ := hrel
    by_cases hlt : k < len
    · have hcell := HV.out k (by rw [← HL.out]; exact hlt)
      have hadd := HA.out k (by rw [← HL.out]; exact hlt)
      have HS := Lib.hid (leftW_succ (l := l) (k := k) (by rw [← HL.out]; exact hlt))
      obtain ⟨x, hx⟩ : ∃ x, l.getD k 0 = x := ⟨_, rfl⟩
      rw [hx] at hcell hadd HS
      clear hx
      have hr := run_fv hadd
      clear hadd
      obtain ⟨s, hs⟩ : ∃ s, leftW l k = s := ⟨_, rfl⟩
      rw [hs] at hr HS ⊢
      clear hs
      go_wp2
      go_round
      case rel => exact ⟨k + 1, by omega, by first | rfl | go_num, by rw [HS.out]⟩
      case measure => first | (simp [intOf]; done) | (simp [intOf]; omega)
    · have hkl : k = len := by omega
      subst hkl
      go_wp2
      go_ret2
      exact ⟨rfl, rfl⟩

/-! ### awake -/
def awl : List Nat := [4877398396442247168, 4607182418800017408, 14100770433297022976, 4607182418800017408]
theorem awl_words : Words awl := by intro x hx; simp only [awl, List.mem_cons, List.not_mem_nil, or_false] at hx; omega
theorem awl_check : checkL fitB awl = 0 := by decide +kernel
theorem awl_left : leftW awl awl.length = 4607182418800017408 := by decide +kernel
theorem awl_ok : ∀ k, k < awl.length → FOk .add (leftW awl k) (awl.getD k 0) := by
  intro k hk
  have : k = 0 ∨ k = 1 ∨ k = 2 ∨ k = 3 := by have : awl.length = 4 := rfl
                                             omega
  rcases this with rfl | rfl | rfl | rfl <;> (unfold FOk; decide +kernel)
theorem awl_exact : exactR fitB awl = 4611686018427387904 := by
  unfold exactR
  rw [if_pos awl_check, (exact_law awl_words awl_check).2]
  decide +kernel

theorem lies_alloc (w : World) (l : List Nat) (cs : Array Value) (hcs : cs = (flts l).toArray) : Lies (w.alloc (.cells cs 23)) w.heap.size 0 l := by
  intro i hi
  have h := heap_alloc_new w (.cells cs 23)
  subst hcs
  rw [Nat.zero_add, cell_of_row _ _ _ _ _ (0, 0) h]
  simp [flts, List.getD, List.getElem?_eq_getElem hi]

theorem awake_any (w : World) : Calls Try.prog 8 #[] w fun e w' => e = .returned (.bool true) ∧ Below w.heap.size w w' := by
  have hlies := lies_alloc w awl #[.float .f64 4877398396442247168, .float .f64 4607182418800017408, .float .f64 14100770433297022976, .float .f64 4607182418800017408] rfl
  have t1 : (FloatKind.f64.format.order 4607182418800017408 4607182418800017408 == some .eq) = true := by decide +kernel
  have t2 : (FloatKind.f64.format.order 4611686018427387904 4611686018427387904 == some .eq) = true := by decide +kernel
  go_enter Try.func8, Try.ntmps8
  go_wp2_with fail
  refine (left_any fitB fit_any _ _ _ _ awl _ rfl (by decide) hlies awl_check awl_ok).mono ?_
  rintro e w' ⟨rfl, rfl⟩
  rw [awl_left]
  go_wp2_with fail
  refine (exact_any fitB fit_any _ _ awl _ (by decide) ⟨_, _, rfl, Or.inr ⟨_, _, rfl, by simp, hlies⟩⟩ (fun _ => (exact_law awl_words awl_check).1)).mono ?_
  rintro e w' ⟨rfl, hb⟩
  rw [awl_exact, awl_check]
  have HB := Lib.hid hb
  clear hb hlies
  go_wp2_with fail
  go_ret
  exact ⟨rfl, ((Below.refl _ _).alloc (Nat.le_refl _) _).trans (HB.out.mono (by simp))⟩
end Go.Proofs.Ytlegkefonpiakaa
