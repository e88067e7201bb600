/- The walk of tot's 'Exact'. Conditions: the operations are valid; the list lies in memory. -/
import Derived.Test.YtlegkefonpiakaaT4
namespace Go.Proofs.Ytlegkefonpiakaa
open Go.RowKit

def expW (l : List Nat) (k : Nat) : List Nat := (l.take k).foldl growW []
theorem expW_succ {l : List Nat} {k : Nat} (h : k < l.length) : expW l (k + 1) = growW (expW l k) (l.getD k 0) := by
  have e : l.getD k 0 = l[k] := by simp [List.getD, List.getElem?_eq_getElem h]
  unfold expW
  rw [e, List.take_succ_eq_append_getElem h, List.foldl_append]; rfl
theorem growW_le (ys : List Nat) (x : Nat) : (growW ys x).length ≤ ys.length + 1 := by
  have := growSt_le ys x ys.length (Nat.le_refl _)
  unfold growW; split
  · simp; omega
  · omega
theorem expW_le (l : List Nat) : ∀ k, k ≤ l.length → (expW l k).length ≤ k := by
  intro k
  induction k with
  | zero => intro _; simp [expW]
  | succ k ih =>
    intro h
    rw [expW_succ (by omega)]
    have := growW_le (expW l k) (l.getD k 0)
    have := ih (by omega)
    omega

def roundedW (ys : List Nat) : Nat := if ys.length = 0 then 0 else fv .add (tieS ys (roundW ys (ys.length - 1) (ys.getD (ys.length - 1) 0) 0)) 0
def RoundedOk (ys : List Nat) : Prop := 0 < ys.length → RoundOk ys (ys.length - 1) (ys.getD (ys.length - 1) 0) 0 ∧ EndOk ys (roundW ys (ys.length - 1) (ys.getD (ys.length - 1) 0) 0)

theorem lies_of_owns {w : World} {base g n cap : Nat} {ys : List Nat} (h : w.ownsRow base 23 1 (.slice (some ⟨g, 0, none⟩) n cap) n (flts ys)) : Lies w g 0 ys ∧ n = ys.length := by
  have hn : n = ys.length := by have := h.1; simp [flts] at this; omega
  refine ⟨?_, hn⟩
  intro i hi
  have := h.cellAt i (by omega)
  rw [Nat.zero_add, this]
  unfold flts
  rw [List.getElem?_map]
  simp [List.getD, List.getElem?_eq_getElem hi]

/-- rounded, whatever expansion of the call's own -/
theorem rounded_own (base len : Nat) (v : Value) (ys : List Nat) (w : World) (hlen : len = ys.length) (hown : w.ownsRow base 23 1 v len (flts ys)) (hm : len ≤ 9223372036854775807) (hok : RoundedOk ys) :
    Calls Try.prog 29 #[v] w fun e w' => e = .returned (.float .f64 (roundedW ys)) ∧ w = w' := by
  rcases hown.2 with ⟨hv, h0⟩ | ⟨g, cap, _, hv, _⟩
  · subst hv
    have : roundedW ys = 0 := by unfold roundedW; rw [if_pos (by omega)]
    rw [this]
    exact rounded_nil 0 w
  · subst hv
    by_cases h0 : len = 0
    · have : roundedW ys = 0 := by unfold roundedW; rw [if_pos (by omega)]
      rw [this, h0]
      exact rounded_empty _ cap w
    · obtain ⟨hl, _⟩ := lies_of_owns hown
      obtain ⟨h1, h2⟩ := hok (by omega)
      have : roundedW ys = fv .add (tieS ys (roundW ys (len - 1) (ys.getD (len - 1) 0) 0)) 0 := by unfold roundedW; rw [if_neg (by omega), hlen]
      rw [this]
      rw [← hlen] at h1 h2
      exact rounded_some g 0 cap len ys w hlen (by omega) hm hl h1 h2

structure ExactOk (l : List Nat) : Prop where
  grow : ∀ k, k < l.length → GrowOk (expW l k) (l.getD k 0)
  round : RoundedOk (expW l l.length)
def exactW (l : List Nat) : Nat := roundedW (expW l l.length)

theorem Lies.below {w wr : World} {b off B : Nat} {l : List Nat} (h : Lies w b off l) (hb : Below B w wr) (hB : b < B) : Lies wr b off l := by
  intro i hi
  rw [show wr.cell? ⟨b, off + i, none⟩ = w.cell? ⟨b, off + i, none⟩ from hb.cell (p := ⟨b, off + i, none⟩) hB]
  exact h i hi

/-- where a list lies: a slice value over its memory, or nil -/
def LiesV (w : World) (B : Nat) (v : Value) (l : List Nat) : Prop := ∃ A cap, v = .slice A l.length cap ∧ ((A = none ∧ l = []) ∨ ∃ b off, A = some ⟨b, off, none⟩ ∧ b < B ∧ Lies w b off l)

theorem LiesV.below {w wr : World} {v : Value} {B : Nat} {l : List Nat} (h : LiesV w B v l) (hb : Below B w wr) : LiesV wr B v l := by
  obtain ⟨A, cap, hv, h⟩ := h
  refine ⟨A, cap, hv, ?_⟩
  rcases h with h | ⟨b, off, h1, h2, h3⟩
  · exact Or.inl h
  · exact Or.inr ⟨b, off, h1, h2, h3.below hb h2⟩

theorem check_v (F : Nat → Bool) (hF : ∀ (x : Nat) (w : World), Calls Try.prog 37 #[.float .f64 x] w fun e w' => e = .returned (.bool (F x)) ∧ w = w')
    (v : Value) (B : Nat) (l : List Nat) (w : World) (hm : l.length ≤ 9223372036854775807) (hv : LiesV w B v l) :
    Calls Try.prog 27 #[v] w fun e w' => e = .returned (.int .i64 (checkL F l)) ∧ w = w' := by
  obtain ⟨A, cap, rfl, h⟩ := hv
  rcases h with ⟨rfl, rfl⟩ | ⟨b, off, rfl, _, h⟩
  · exact check_nil F cap w
  · exact check_any F hF b off cap _ l rfl w hm h

def exactR (F : Nat → Bool) (l : List Nat) : Nat := if checkL F l = 0 then exactW l else 0

set_option maxHeartbeats 2000000 in
theorem exact_any (F : Nat → Bool) (hF : ∀ (x : Nat) (w : World), Calls Try.prog 37 #[.float .f64 x] w fun e w' => e = .returned (.bool (F x)) ∧ w = w')
    (A : Option Addr) (cap : Nat) (l : List Nat) (w : World) (hm : l.length ≤ 9223372036854775807) (hv : LiesV w w.heap.size (.slice A l.length cap) l) (hok : checkL F l = 0 → ExactOk l) :
    Calls Try.prog 11 #[.slice A l.length cap] w fun e w' => e = .returned (.tuple #[.float .f64 (exactR F l), .int .i64 (checkL F l)]) ∧ Below w.heap.size w w' := by
  have hck := check_v F hF (.slice A l.length cap) w.heap.size l w hm hv
  have HV := Lib.hid hv
  have HO := Lib.hid hok
  clear hv hok
  by_cases he : checkL F l = 0
  · have he' : (checkL F l != 0) = false := by rw [he]; rfl
    have hres : exactR F l = exactW l := by unfold exactR; rw [if_pos he]
    have hk := HO.out he
    have hlen : l.length ≤ 256 := by
      rcases Nat.lt_or_ge 256 l.length with h | h
      · unfold checkL at he; rw [if_pos h] at he; exact absurd he (by decide)
      · exact h
    rw [hres, he]
    rw [he] at hck
    have HK := Lib.hid hk
    clear hres he he' hk HO
    go_enter Try.func11, Try.ntmps11
    go_wp2_with (first | (go_at_call 27; refine hck.mono ?_; rintro e w' ⟨rfl, rfl⟩))
    clear hck
    go_loopw [5, 15] (fun vp vi wr => ∃ k : Nat, k ≤ l.length ∧ vi = .int .i64 k ∧ wr.ownsRow w.heap.size 23 1 vp (expW l k).length (flts (expW l k)) ∧ Below w.heap.size w wr) (fun _ vi _ => l.length - (intOf vi).toNat)
    case atStart => exact ⟨0, Nat.zero_le _, rfl, World.ownsRow_nil _ _ _ _, Below.refl _ _⟩
    case round =>
      obtain ⟨k, hk, rfl, hown, hbel⟩ := hrel
      have HB := Lib.hid hbel
      have HW := Lib.hid hown
      have hle := expW_le l k hk
      have hsz := hbel.size
      clear hown hbel
      by_cases hlt : k < l.length
      · have hcell : ∃ b off, A = some ⟨b, off, none⟩ ∧ wr.cell? ⟨b, off + k, none⟩ = some (.float .f64 (l.getD k 0)) := by
          obtain ⟨A', cap', hv, h⟩ := HV.out.below HB.out
          cases hv
          rcases h with ⟨_, h⟩ | ⟨b, off, h1, h2, h3⟩
          · rw [h] at hlt; exact absurd hlt (by simp)
          · exact ⟨b, off, h1, h3 k hlt⟩
        obtain ⟨b, off, rfl, hcell⟩ := hcell
        have HS := Lib.hid (expW_succ hlt)
        have hg := HK.out.grow k hlt
        obtain ⟨x, hx⟩ : ∃ x, l.getD k 0 = x := ⟨_, rfl⟩
        rw [hx] at hcell hg
        have HX := Lib.hid hx
        have HG := Lib.hid hg
        clear hx hg
        go_wp2_with (first | (go_at_call 28; refine (more_any w.heap.size _ _ _ _ _ rfl HW.out hsz (by omega) HG.out).mono ?_; rintro e w1 ⟨v', rfl, hown', hgr, hat⟩))
        have H1 := Lib.hid hown'
        have H2 := Lib.hid hgr
        clear hown' hgr hat
        go_roundw
        case rel => exact ⟨k + 1, by omega, by go_num, by rw [HS.out, HX.out]; exact H1.out, HB.out.grown H2.out hsz (fun j hj => (HW.out.lt j hj).1)⟩
        case measure => simp [intOf]; omega
      · have hkl : k = l.length := by omega
        have HE : Hid (exactW l = roundedW (expW l k) ∧ RoundedOk (expW l k)) := Lib.hid ⟨by rw [hkl]; rfl, by rw [hkl]; exact HK.out.round⟩
        clear hkl
        go_wp2_with (first | (go_at_call 29; refine (rounded_own _ _ _ _ _ rfl HW.out (by omega) HE.out.2).mono ?_; rintro e w1 ⟨rfl, rfl⟩))
        go_ret2
        exact ⟨by rw [HE.out.1]; rfl, HB.out⟩
  · have he' : (checkL F l != 0) = true := by rw [bne_iff_ne]; exact he
    have hres : exactR F l = 0 := by unfold exactR; rw [if_neg he]
    rw [hres]
    clear hres HO
    obtain ⟨c, hc⟩ : ∃ c, checkL F l = c := ⟨_, rfl⟩
    rw [hc] at hck he' ⊢
    clear hc he
    go_enter Try.func11, Try.ntmps11
    go_wp2_with (first | (go_at_call 27; refine hck.mono ?_; rintro e w' ⟨rfl, rfl⟩))
    go_ret2
    exact ⟨rfl, Below.refl _ _⟩
end Go.Proofs.Ytlegkefonpiakaa
