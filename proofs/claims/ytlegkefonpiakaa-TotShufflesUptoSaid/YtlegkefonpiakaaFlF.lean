/- Plain law: expansions: parts that do not overlap, grown by a number, and rounded once at the end. Conditions: words in, at least one bit of fraction. -/
import Derived.Test.YtlegkefonpiakaaFlE
namespace Ieee

/-- the place above a number's highest bit -/
def top (x : Int) : Nat := if x = 0 then 0 else x.natAbs.log2 + 1

theorem lt_top (x : Int) : x.natAbs < 2 ^ top x := by
  unfold top; split
  · rename_i h; subst h; decide
  · exact Nat.lt_log2_self

theorem top_le {x : Int} {k : Nat} (h : x.natAbs < 2 ^ k) : top x ≤ k := by
  unfold top; split
  · omega
  · rename_i h0
    have := (Nat.log2_lt (show x.natAbs ≠ 0 from by omega)).2 h
    omega

theorem top_mono {x y : Int} (h : x.natAbs ≤ y.natAbs) : top x ≤ top y := top_le (Nat.lt_of_le_of_lt h (lt_top y))

theorem pow_top_le {x : Int} (h : x ≠ 0) : ∃ j, top x = j + 1 ∧ 2 ^ j ≤ x.natAbs := by
  refine ⟨x.natAbs.log2, by unfold top; rw [if_neg h], Nat.log2_self_le (by omega)⟩

/-- y lies whole above x -/
def Above (x y : Int) : Prop := (2 ^ top x : Int) ∣ y

/-- parts that do not overlap, rising, none 0 -/
def Rising : List Int → Prop
  | [] => True
  | x :: xs => x ≠ 0 ∧ (∀ y ∈ xs, Above x y) ∧ Rising xs

namespace Format
variable (f : Format)

def growR : List Int → Int → List Int
  | [], x => if x = 0 then [] else [x]
  | y :: ys, x => if x + y - f.rnd (x + y) = 0 then growR ys (f.rnd (x + y)) else (x + y - f.rnd (x + y)) :: growR ys (f.rnd (x + y))

theorem grow_sum (ys : List Int) : ∀ x, (f.growR ys x).sum = x + ys.sum := by
  induction ys with
  | nil => intro x; unfold growR; split <;> simp_all
  | cons y ys ih =>
    intro x
    unfold growR; split
    · rw [ih, List.sum_cons]; omega
    · rw [List.sum_cons, ih, List.sum_cons]; omega

theorem grow_dvd (hp : 1 ≤ f.fractionBits) {k : Nat} (ys : List Int) : ∀ x, (2 ^ k : Int) ∣ x → (∀ y ∈ ys, (2 ^ k : Int) ∣ y) → ∀ z ∈ f.growR ys x, (2 ^ k : Int) ∣ z := by
  induction ys with
  | nil =>
    intro x hx _ z hz
    unfold growR at hz
    split at hz
    · cases hz
    · rw [List.mem_singleton] at hz; rw [hz]; exact hx
  | cons y ys ih =>
    intro x hx hy z hz
    have h1 : (2 ^ k : Int) ∣ x + y := Int.dvd_add hx (hy y (List.mem_cons_self ..))
    have h2 := f.rnd_dvd hp h1
    have h3 := ih (f.rnd (x + y)) h2 (fun a ha => hy a (List.mem_cons_of_mem _ ha))
    unfold growR at hz
    split at hz
    · exact h3 z hz
    · rcases List.mem_cons.1 hz with rfl | hz
      · exact Int.dvd_sub h1 h2
      · exact h3 z hz

theorem grow_fits (hp : 1 ≤ f.fractionBits) (ys : List Int) : ∀ x, f.Fits x → (∀ y ∈ ys, f.Fits y) → ∀ z ∈ f.growR ys x, f.Fits z := by
  induction ys with
  | nil =>
    intro x hx _ z hz
    unfold growR at hz
    split at hz
    · cases hz
    · rw [List.mem_singleton] at hz; rw [hz]; exact hx
  | cons y ys ih =>
    intro x hx hy z hz
    have h1 := f.err_fits hp hx (hy y (List.mem_cons_self ..))
    have h3 := ih (f.rnd (x + y)) (f.fits_rnd _) (fun a ha => hy a (List.mem_cons_of_mem _ ha))
    unfold growR at hz
    split at hz
    · exact h3 z hz
    · rcases List.mem_cons.1 hz with rfl | hz
      · exact h1
      · exact h3 z hz

/-- the rounding lies whole above its error -/
theorem err_above (hp : 1 ≤ f.fractionBits) (z : Int) : (2 ^ top (z - f.rnd z) : Int) ∣ f.rnd z := by
  have key : ∀ z : Int, 0 ≤ z → (2 ^ top (z - f.rnd z) : Int) ∣ f.rnd z := by
    intro z hz
    obtain ⟨N, rfl⟩ := Int.eq_ofNat_of_zero_le hz
    by_cases h0 : (N : Int) - f.rnd N = 0
    · rw [h0]; show (2 ^ 0 : Int) ∣ _; simp
    · rw [f.rnd_nonneg (by omega), Int.natAbs_natCast] at h0 ⊢
      obtain ⟨L, _, hdL, hsu⟩ := f.unit_dvd_gap N
      obtain ⟨h1, h2⟩ := f.fl_spec N
      obtain ⟨j, hj, hjle⟩ := pow_top_le h0
      have hb : 2 * ((N : Int) - (f.unit (f.nr N) : Int)).natAbs ≤ 2 ^ L := by
        rcases f.nr_cases hp N with ⟨a, b⟩ | ⟨a, b⟩ <;> rw [a] <;> omega
      have hjL : j + 1 ≤ L := by
        have : 2 ^ (j + 1) ≤ 2 ^ L := by rw [Nat.pow_succ]; omega
        exact (Nat.pow_le_pow_iff_right (by omega)).1 this
      rw [hj]
      have hd : 2 ^ L ∣ f.unit (f.nr N) := by
        rcases f.nr_cases hp N with ⟨a, b⟩ | ⟨a, b⟩ <;> rw [a]
        · exact hdL
        · rw [hsu]; exact Nat.dvd_add hdL (Nat.dvd_refl _)
      have := Int.natCast_dvd_natCast.2 (Nat.dvd_trans (Nat.pow_dvd_pow 2 hjL) hd)
      simpa using this
  by_cases h : 0 ≤ z
  · exact key z h
  · have := key (-z) (by omega)
    rw [f.rnd_neg] at this
    have h2 : top (-z - -f.rnd z) = top (z - f.rnd z) := by
      unfold top
      have e1 : (-z - -f.rnd z = 0) ↔ (z - f.rnd z = 0) := by omega
      have e2 : (-z - -f.rnd z).natAbs = (z - f.rnd z).natAbs := by omega
      simp only [e1, e2]
    rw [h2] at this
    exact Int.dvd_neg.1 this

theorem grow_rising (hp : 1 ≤ f.fractionBits) (ys : List Int) : ∀ x, f.Fits x → (∀ y ∈ ys, f.Fits y) → Rising ys → Rising (f.growR ys x) := by
  induction ys with
  | nil =>
    intro x _ _ _
    unfold growR; split
    · trivial
    · rename_i h; exact ⟨h, (fun _ hy => by cases hy), trivial⟩
  | cons y ys ih =>
    intro x hx hy hr
    obtain ⟨_, hr2, hr3⟩ := hr
    have h3 := ih (f.rnd (x + y)) (f.fits_rnd _) (fun a ha => hy a (List.mem_cons_of_mem _ ha)) hr3
    unfold growR; split
    · exact h3
    · rename_i h0
      refine ⟨h0, ?_, h3⟩
      have h1 := f.err_above hp (x + y)
      have h2 : top (x + y - f.rnd (x + y)) ≤ top y := top_mono (f.err_le hp hx (hy y (List.mem_cons_self ..))).2
      exact f.grow_dvd hp ys _ h1 (fun a ha => Int.dvd_trans (Int.pow_dvd_pow' h2) (hr2 a ha))
end Format

/-! ### the sum of parts, told by the greatest -/
theorem dvd_gap {a b : Nat} {k : Nat} (ha : 2 ^ k ∣ a) (hb : 2 ^ k ∣ b) (h : a < b) : a + 2 ^ k ≤ b := by
  obtain ⟨x, rfl⟩ := ha
  obtain ⟨y, rfl⟩ := hb
  have : x < y := Nat.lt_of_mul_lt_mul_left h
  calc 2 ^ k * x + 2 ^ k = 2 ^ k * (x + 1) := by rw [Nat.mul_add, Nat.mul_one]
    _ ≤ 2 ^ k * y := Nat.mul_le_mul_left _ this

/-- falling parts: the greatest first -/
def Falling : List Int → Prop
  | [] => True
  | x :: xs => x ≠ 0 ∧ (∀ y ∈ xs, Above y x) ∧ Falling xs

theorem falling_append : ∀ (xs : List Int) (x : Int), Falling xs → x ≠ 0 → (∀ y ∈ xs, Above x y) → Falling (xs ++ [x])
  | [], x, _, h, _ => ⟨h, (fun _ hy => by cases hy), trivial⟩
  | y :: ys, x, h, h0, ha => by
    refine ⟨h.1, ?_, falling_append ys x h.2.2 h0 (fun z hz => ha z (List.mem_cons_of_mem _ hz))⟩
    intro z hz
    rcases List.mem_append.1 hz with hz | hz
    · exact h.2.1 z hz
    · rw [List.mem_singleton] at hz; subst hz; exact ha y (List.mem_cons_self ..)

theorem falling_reverse : ∀ xs : List Int, Rising xs → Falling xs.reverse
  | [], _ => trivial
  | x :: xs, h => by
    rw [List.reverse_cons]
    exact falling_append _ x (falling_reverse xs h.2.2) h.1 (fun y hy => h.2.1 y (List.mem_reverse.1 hy))

/-- the rest of falling parts is small beside what they all lie below; its sign is its head's -/
theorem falling_sum : ∀ (xs : List Int), Falling xs → xs.sum.natAbs < 2 ^ top (xs.headD 0) ∧ (xs ≠ [] → xs.sum ≠ 0 ∧ (decide (xs.sum < 0) = decide (xs.headD 0 < 0)))
  | [], _ => by
    refine ⟨?_, fun h => absurd rfl h⟩
    show (0 : Int).natAbs < 2 ^ top 0
    decide
  | x :: xs, h => by
    obtain ⟨ih, _⟩ := falling_sum xs h.2.2
    have hx := lt_top x
    have hx0 := h.1
    show (x :: xs).sum.natAbs < 2 ^ top x ∧ ((x :: xs) ≠ [] → (x :: xs).sum ≠ 0 ∧ decide ((x :: xs).sum < 0) = decide (x < 0))
    rw [List.sum_cons]
    -- the rest is smaller than a power that divides x
    have hk : ∃ k, xs.sum.natAbs < 2 ^ k ∧ 2 ^ k ∣ x.natAbs ∧ k ≤ top x := by
      cases xs with
      | nil => exact ⟨0, by simp, by simp, Nat.zero_le _⟩
      | cons y ys =>
        have ha : (2 ^ top y : Int) ∣ x := h.2.1 y (List.mem_cons_self ..)
        have hn : 2 ^ top y ∣ x.natAbs := by
          have := Int.natAbs_dvd_natAbs.2 ha
          simpa [Int.natAbs_pow] using this
        refine ⟨top y, ih, hn, ?_⟩
        have h1 := Nat.le_of_dvd (by omega) hn
        have h2 : 2 ^ top y < 2 ^ top x := Nat.lt_of_le_of_lt h1 hx
        exact Nat.le_of_lt ((Nat.pow_lt_pow_iff_right (by omega)).1 h2)
    obtain ⟨k, h1, h2, h3⟩ := hk
    have h4 := dvd_gap h2 (Nat.pow_dvd_pow 2 h3) hx
    have h5 := Nat.le_of_dvd (by omega) h2
    refine ⟨by omega, fun _ => ⟨by omega, ?_⟩⟩
    by_cases hs : x < 0
    · rw [decide_eq_true hs, decide_eq_true (by omega)]
    · rw [decide_eq_false hs, decide_eq_false (by omega)]

namespace Format
variable (f : Format)

/-- from the greatest on, till something is left over -/
def roundL : Int → List Int → Int × Int × List Int
  | s, [] => (s, 0, [])
  | s, y :: ys => if s + y - f.rnd (s + y) = 0 then roundL (f.rnd (s + y)) ys else (f.rnd (s + y), s + y - f.rnd (s + y), ys)

/-- a tie is broken by what lies below -/
def roundE (r : Int × Int × List Int) : Int :=
  if r.2.1 ≠ 0 ∧ r.2.2 ≠ [] ∧ decide (r.2.1 < 0) = decide (r.2.2.headD 0 < 0) then
    (if f.rnd (f.rnd (r.1 + 2 * r.2.1) - r.1) = 2 * r.2.1 then f.rnd (r.1 + 2 * r.2.1) else r.1) else r.1

theorem round_spec (hp : 1 ≤ f.fractionBits) : ∀ (ys : List Int) (s : Int), f.Fits s → Falling ys → (∀ y ∈ ys, Above y s) → f.roundE (f.roundL s ys) = f.rnd (s + ys.sum)
  | [], s, hs, _, _ => by
    unfold roundL roundE
    rw [if_neg (by simp)]
    simp [f.rnd_of_fits hp hs]
  | y :: ys, s, _, hf, ha => by
    unfold roundL
    rw [List.sum_cons, ← Int.add_assoc]
    have hys : ∀ a ∈ ys, Above a (s + y) := fun a h => Int.dvd_add (ha a (List.mem_cons_of_mem _ h)) (hf.2.1 a h)
    by_cases h0 : s + y - f.rnd (s + y) = 0
    · rw [if_pos h0, round_spec hp ys _ (f.fits_rnd _) hf.2.2 (fun a h => by have := hys a h; rwa [show s + y = f.rnd (s + y) from by omega] at this)]
      rw [← show s + y = f.rnd (s + y) from by omega]
    · rw [if_neg h0]
      unfold roundE
      show (if s + y - f.rnd (s + y) ≠ 0 ∧ ys ≠ [] ∧ decide (s + y - f.rnd (s + y) < 0) = decide (ys.headD 0 < 0) then
        (if f.rnd (f.rnd (f.rnd (s + y) + 2 * (s + y - f.rnd (s + y))) - f.rnd (s + y)) = 2 * (s + y - f.rnd (s + y)) then f.rnd (f.rnd (s + y) + 2 * (s + y - f.rnd (s + y))) else f.rnd (s + y)) else f.rnd (s + y)) = _
      obtain ⟨hb, hsg⟩ := falling_sum ys hf.2.2
      cases ys with
      | nil =>
        rw [if_neg (by simp)]; simp
      | cons b bs =>
        obtain ⟨hne, hsign⟩ := hsg (by simp)
        have hk : (2 ^ top b : Int) ∣ s + y := hys b (List.mem_cons_self ..)
        obtain ⟨_, h1, h2⟩ := f.rnd_tail hp hk (by omega) hb
        rw [show (b :: bs).headD 0 = b from rfl]
        have hsign' : decide ((b :: bs).sum < 0) = decide (b < 0) := hsign
        by_cases hc : decide (s + y - f.rnd (s + y) < 0) = decide (b < 0)
        · rw [if_pos ⟨h0, by simp, hc⟩]
          obtain ⟨hfit, h3, h4⟩ := h2 hne (by rw [hsign']; exact hc)
          rw [f.rnd_of_fits hp hfit]
          by_cases he : f.rnd (f.rnd (s + y) + 2 * (s + y - f.rnd (s + y))) - f.rnd (s + y) = 2 * (s + y - f.rnd (s + y))
          · rw [if_pos he, h3 he]
          · rw [if_neg he, h4 he]
        · rw [if_neg (fun h => hc h.2.2), h1 (Or.inr (by rw [hsign']; exact hc))]
end Format
end Ieee
