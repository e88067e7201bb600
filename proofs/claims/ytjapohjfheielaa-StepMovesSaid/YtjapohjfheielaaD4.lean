/- Plain law: whoever is first is not seen; places moved; an axis turned about. Conditions: none. -/
import Derived.Test.YtjapohjfheielaaD3
namespace Go.Proofs.Ytjapohjfheielaa
open Ieee (FinW V dR big double wordOf deepD)

theorem fr_eq (g : Nat) (Q : Nat → Int) (a b c : Nat) : fr g Q a b c = pk g (Q (a * 7) * Q (b * 7)) (Q (b * 7 + 1) - Q (a * 7 + 1)) (Q (b * 7 + 2) - Q (a * 7 + 2)) (Q (b * 7 + 3) - Q (a * 7 + 3)) (Q (b * 7 + 1 + c) - Q (a * 7 + 1 + c)) := rfl
attribute [local irreducible] rd fr pk
theorem driftS_at (h : Int) (S : Nat → Int) (i c : Nat) (hc : c < 3) : driftS h S (i * 7 + (1 + c)) = S (i * 7 + (1 + c)) + h * rd (S (i * 7 + (4 + c))) (S (i * 7)) := by
  have := driftS_x h S i c hc
  rw [Nat.add_assoc, Nat.add_assoc] at this; exact this
theorem driftS_same (h : Int) (S : Nat → Int) (i t : Nat) (ht : t < 7) (h1 : ¬ (1 ≤ t ∧ t ≤ 3)) : driftS h S (i * 7 + t) = S (i * 7 + t) := by unfold driftS; rw [if_neg (by omega)]
theorem kickS_at (g : Nat) (h : Int) (n : Nat) (S : Nat → Int) (i c : Nat) (hc : c < 3) : kickS g h n S (i * 7 + (4 + c)) = S (i * 7 + (4 + c)) + h * sumTo n (fun b => fr g S i b c) := by
  unfold kickS
  rw [if_pos (by omega), show (i * 7 + (4 + c)) / 7 = i from by omega, show (i * 7 + (4 + c)) % 7 - 4 = c from by omega]
theorem fr_rel {g : Nat} {S T : Nat → Int} {a b a' b' c : Nat} (hc : c < 3) (ha : ∀ t, t < 4 → T (a * 7 + t) = S (a' * 7 + t)) (hb : ∀ t, t < 4 → T (b * 7 + t) = S (b' * 7 + t)) : fr g T a b c = fr g S a' b' c := by
  have a0 := ha 0 (by omega)
  have b0 := hb 0 (by omega)
  simp only [Nat.add_zero] at a0 b0
  have ac := ha (1 + c) (by omega)
  have bc := hb (1 + c) (by omega)
  rw [← Nat.add_assoc, ← Nat.add_assoc] at ac bc
  rw [fr_eq, fr_eq, a0, b0, ac, bc, ha 1 (by omega), ha 2 (by omega), ha 3 (by omega), hb 1 (by omega), hb 2 (by omega), hb 3 (by omega)]

/-! ### another order -/
def Perm (σ : Nat → Nat) (n : Nat) (S T : Nat → Int) : Prop := ∀ i, i < n → ∀ t, t < 7 → T (i * 7 + t) = S (σ i * 7 + t)
/-- an exchange of the places below n -/
structure Inv (σ : Nat → Nat) (n : Nat) : Prop where
  lt : ∀ i, i < n → σ i < n
  two : ∀ i, i < n → σ (σ i) = i
theorem sum_inv {σ : Nat → Nat} {n : Nat} (hσ : Inv σ n) (F : Nat → Int) : sumTo n (fun b => F (σ b)) = sumTo n F := by
  have h1 : ∀ b, b < n → F (σ b) = sumTo n (fun j => if j = σ b then F j else 0) := fun b hb => by
    rw [sumTo_one (G := fun _ => 0) (hσ.lt b hb) (fun j _ hne => if_neg hne), sumTo_zero (fun _ _ => rfl), if_pos rfl]; omega
  rw [sumTo_congr h1, sumTo_swap]
  refine sumTo_congr (fun j hj => ?_)
  rw [sumTo_one (G := fun _ => 0) (hσ.lt j hj) (fun b hb hne => if_neg (fun e => hne (by rw [e, hσ.two b hb]))), sumTo_zero (fun _ _ => rfl), if_pos (hσ.two j hj).symm]; omega
theorem perm_okM {σ : Nat → Nat} {n : Nat} {S T : Nat → Int} (h : Perm σ n S T) {i : Nat} (hi : i < n) : okM T i ↔ okM S (σ i) := by
  have h0 := h i hi 0 (by omega)
  simp only [Nat.add_zero] at h0
  unfold okM
  rw [h0]
  constructor
  · rintro ⟨a, b⟩
    refine ⟨a, fun k hk => ?_⟩
    have := b k hk
    rw [Nat.add_assoc, Nat.add_assoc, h i hi (1 + k) (by omega), h i hi (4 + k) (by omega)] at this
    rw [Nat.add_assoc, Nat.add_assoc]; exact this
  · rintro ⟨a, b⟩
    refine ⟨a, fun k hk => ?_⟩
    have := b k hk
    rw [Nat.add_assoc, Nat.add_assoc] at this
    rw [Nat.add_assoc, Nat.add_assoc, h i hi (1 + k) (by omega), h i hi (4 + k) (by omega)]; exact this
theorem perm_ok {σ : Nat → Nat} {n : Nat} {S T : Nat → Int} (hσ : Inv σ n) (h : Perm σ n S T) : okAll n T ↔ okAll n S := by
  constructor
  · intro hT i hi
    have := (perm_okM h (hσ.lt i hi)).1 (hT _ (hσ.lt i hi))
    rwa [hσ.two i hi] at this
  · intro hS i hi
    exact (perm_okM h hi).2 (hS _ (hσ.lt i hi))
theorem perm_chk {σ : Nat → Nat} {n : Nat} {S T : Nat → Int} (hσ : Inv σ n) (h : Perm σ n S T) : chk n T = chk n S := by
  unfold chk
  by_cases h8 : 8 < n
  · rw [if_pos h8, if_pos h8]
  · rw [if_neg h8, if_neg h8]
    by_cases hk : okAll n S
    · rw [if_pos hk, if_pos ((perm_ok hσ h).2 hk)]
    · rw [if_neg hk, if_neg (fun e => hk ((perm_ok hσ h).1 e))]
theorem perm_drift {σ : Nat → Nat} {n : Nat} {S T : Nat → Int} (hh : Int) (h : Perm σ n S T) : Perm σ n (driftS hh S) (driftS hh T) := by
  intro i hi t ht
  by_cases h1 : 1 ≤ t ∧ t ≤ 3
  · obtain ⟨c, rfl⟩ : ∃ c, t = 1 + c := ⟨t - 1, by omega⟩
    have h0 := h i hi 0 (by omega)
    simp only [Nat.add_zero] at h0
    rw [driftS_at _ _ _ _ (by omega), driftS_at _ _ _ _ (by omega), h i hi _ ht, h i hi (4 + c) (by omega), h0]
  · rw [driftS_same _ _ _ _ ht h1, driftS_same _ _ _ _ ht h1, h i hi t ht]
theorem perm_kick {σ : Nat → Nat} {n : Nat} {S T : Nat → Int} (hσ : Inv σ n) (g : Nat) (hh : Int) (h : Perm σ n S T) : Perm σ n (kickS g hh n S) (kickS g hh n T) := by
  intro i hi t ht
  by_cases h4 : 4 ≤ t
  · obtain ⟨c, rfl⟩ : ∃ c, t = 4 + c := ⟨t - 4, by omega⟩
    rw [kickS_at _ _ _ _ _ _ (by omega), kickS_at _ _ _ _ _ _ (by omega), h i hi _ ht]
    congr 2
    rw [← sum_inv hσ (fun b => fr g S (σ i) b c)]
    exact sumTo_congr (fun b hb => fr_rel (by omega) (fun t ht => h i hi t (by omega)) (fun t ht => h b hb t (by omega)))
  · rw [kickS_low _ _ _ _ _ _ (by omega), kickS_low _ _ _ _ _ _ (by omega), h i hi t ht]
/-- two ends that go together -/
def Ends (R : (Nat → Int) → (Nat → Int) → Prop) : Option (Nat → Int) → Option (Nat → Int) → Prop
  | none, none => True
  | some S, some T => R S T
  | _, _ => False
theorem perm_step {σ : Nat → Nat} {n : Nat} {S T : Nat → Int} (hσ : Inv σ n) (g : Nat) (hh : Int) (h : Perm σ n S T) : Ends (Perm σ n) (stepO g hh n S) (stepO g hh n T) := by
  have d1 := perm_drift hh h
  have k1 := perm_kick hσ g hh d1
  have d2 := perm_drift hh k1
  unfold stepO
  by_cases h1 : okAll n (driftS hh S)
  · rw [if_pos h1, if_pos ((perm_ok hσ d1).2 h1)]
    by_cases h2 : okAll n (kickS g hh n (driftS hh S))
    · rw [if_pos h2, if_pos ((perm_ok hσ k1).2 h2)]
      by_cases h3 : okAll n (driftS hh (kickS g hh n (driftS hh S)))
      · rw [if_pos h3, if_pos ((perm_ok hσ d2).2 h3)]; exact d2
      · rw [if_neg h3, if_neg (fun e => h3 ((perm_ok hσ d2).1 e))]; trivial
    · rw [if_neg h2, if_neg (fun e => h2 ((perm_ok hσ k1).1 e))]; trivial
  · rw [if_neg h1, if_neg (fun e => h1 ((perm_ok hσ d1).1 e))]; trivial
theorem perm_run {σ : Nat → Nat} {n : Nat} {S T : Nat → Int} (hσ : Inv σ n) (g : Nat) (hh : Int) (h : Perm σ n S T) : ∀ s, Ends (Perm σ n) (runO g hh n S s) (runO g hh n T s)
  | 0 => h
  | s + 1 => by
    have ih := perm_run hσ g hh h s
    show Ends _ ((runO g hh n S s).bind _) ((runO g hh n T s).bind _)
    cases h1 : runO g hh n S s with
    | none =>
      cases h2 : runO g hh n T s with
      | none => trivial
      | some U => rw [h1, h2] at ih; exact ih.elim
    | some Q =>
      cases h2 : runO g hh n T s with
      | none => rw [h1, h2] at ih; exact ih.elim
      | some U => rw [h1, h2] at ih; exact perm_step hσ g hh ih
theorem perm_R {σ : Nat → Nat} {n gw : Nat} {S T : Nat → Int} {N : Int} (hσ : Inv σ n) (h : Perm σ n S T) : (runR gw n T N).1 = (runR gw n S N).1 ∧ ((runR gw n S N).1 = 0 → Perm σ n (runR gw n S N).2 (runR gw n T N).2) := by
  have hc := perm_chk hσ h
  by_cases h1 : chk n S = 0
  · by_cases h2 : N < -4096 ∨ 4096 < N ∨ geB gw = false ∨ leB gw = false
    · rw [runR_arg h1 h2, runR_arg (hc.trans h1) h2]; exact ⟨rfl, fun e => by cases e⟩
    · have hr := perm_run hσ gw (sgnN N) h N.natAbs
      cases h3 : runO gw (sgnN N) n S N.natAbs with
      | none =>
        cases h4 : runO gw (sgnN N) n T N.natAbs with
        | none => rw [runR_none h1 h2 h3, runR_none (hc.trans h1) h2 h4]; exact ⟨rfl, fun e => by cases e⟩
        | some U => rw [h3, h4] at hr; exact hr.elim
      | some Q =>
        cases h4 : runO gw (sgnN N) n T N.natAbs with
        | none => rw [h3, h4] at hr; exact hr.elim
        | some U =>
          rw [h3, h4] at hr
          rw [runR_some h1 h2 h3, runR_some (hc.trans h1) h2 h4]; exact ⟨rfl, fun _ => hr⟩
  · rw [runR_chk h1, runR_chk (by rw [hc]; exact h1), hc]; exact ⟨rfl, fun e => absurd e h1⟩
theorem inv_turn {n k : Nat} (hk : k < n) : Inv (fun i => (n - 1 - i + k) % n) n := by
  refine ⟨fun i hi => Nat.mod_lt _ (by omega), fun i hi => ?_⟩
  show (n - 1 - (n - 1 - i + k) % n + k) % n = i
  by_cases h : n - 1 - i + k < n
  · rw [Nat.mod_eq_of_lt h, show n - 1 - (n - 1 - i + k) + k = i from by omega, Nat.mod_eq_of_lt hi]
  · have e : (n - 1 - i + k) % n = n - 1 - i + k - n := by
      rw [Nat.mod_eq_sub_mod (by omega), Nat.mod_eq_of_lt (by omega)]
    rw [e, show n - 1 - (n - 1 - i + k - n) + k = i + n from by omega, Nat.add_mod_right, Nat.mod_eq_of_lt hi]

/-! ### all places moved -/
def Moved (m : Nat → Int) (n : Nat) (S T : Nat → Int) : Prop := ∀ i, i < n → T (i * 7) = S (i * 7) ∧ ∀ c, c < 3 → T (i * 7 + (1 + c)) = S (i * 7 + (1 + c)) + m c ∧ T (i * 7 + (4 + c)) = S (i * 7 + (4 + c))
theorem moved_drift {m : Nat → Int} {n : Nat} {S T : Nat → Int} (hh : Int) (h : Moved m n S T) : Moved m n (driftS hh S) (driftS hh T) := by
  intro i hi
  obtain ⟨h0, hc⟩ := h i hi
  refine ⟨by rw [driftS_m, driftS_m, h0], fun c hc3 => ?_⟩
  obtain ⟨hx, hp⟩ := hc c hc3
  rw [driftS_at _ _ _ _ hc3, driftS_at _ _ _ _ hc3, driftS_same _ _ _ _ (by omega) (by omega), driftS_same _ _ _ _ (by omega) (by omega), hx, hp, h0]
  exact ⟨by omega, rfl⟩
theorem moved_fr {m : Nat → Int} {n g : Nat} {S T : Nat → Int} (h : Moved m n S T) {a b c : Nat} (ha : a < n) (hb : b < n) (hc : c < 3) : fr g T a b c = fr g S a b c := by
  obtain ⟨a0, ac⟩ := h a ha
  obtain ⟨b0, bc⟩ := h b hb
  have d : ∀ e, e < 3 → T (b * 7 + 1 + e) - T (a * 7 + 1 + e) = S (b * 7 + 1 + e) - S (a * 7 + 1 + e) := fun e he => by
    have h1 := (ac e he).1
    have h2 := (bc e he).1
    rw [← Nat.add_assoc] at h1 h2
    omega
  have d0 := d 0 (by omega)
  have d1 := d 1 (by omega)
  have d2 := d 2 (by omega)
  simp only [Nat.add_zero] at d0
  rw [show b * 7 + 1 + 1 = b * 7 + 2 from rfl, show a * 7 + 1 + 1 = a * 7 + 2 from rfl] at d1
  rw [show b * 7 + 1 + 2 = b * 7 + 3 from rfl, show a * 7 + 1 + 2 = a * 7 + 3 from rfl] at d2
  rw [fr_eq, fr_eq, a0, b0, d0, d1, d2, d c hc]
theorem moved_kick {m : Nat → Int} {n : Nat} {S T : Nat → Int} (g : Nat) (hh : Int) (h : Moved m n S T) : Moved m n (kickS g hh n S) (kickS g hh n T) := by
  intro i hi
  obtain ⟨h0, hc⟩ := h i hi
  have l0 := fun Q => kickS_low g hh n Q i 0 (by omega)
  simp only [Nat.add_zero] at l0
  refine ⟨by rw [l0, l0, h0], fun c hc3 => ?_⟩
  obtain ⟨hx, hp⟩ := hc c hc3
  rw [kickS_low _ _ _ _ _ _ (by omega), kickS_low _ _ _ _ _ _ (by omega), kickS_at _ _ _ _ _ _ hc3, kickS_at _ _ _ _ _ _ hc3, hx, hp]
  exact ⟨rfl, by rw [sumTo_congr (fun b hb => moved_fr h hi hb hc3)]⟩
theorem moved_step {m : Nat → Int} {n : Nat} {S T S' T' : Nat → Int} {g : Nat} {hh : Int} (h : Moved m n S T) (h1 : stepO g hh n S = some S') (h2 : stepO g hh n T = some T') : Moved m n S' T' := by
  unfold stepO at h1 h2
  split at h1
  · split at h1
    · split at h1
      · cases h1
        split at h2
        · split at h2
          · split at h2
            · cases h2; exact moved_drift hh (moved_kick g hh (moved_drift hh h))
            · cases h2
          · cases h2
        · cases h2
      · cases h1
    · cases h1
  · cases h1
theorem moved_run {m : Nat → Int} {n : Nat} {S T : Nat → Int} {g : Nat} {hh : Int} (h : Moved m n S T) : ∀ s {S' T' : Nat → Int}, runO g hh n S s = some S' → runO g hh n T s = some T' → Moved m n S' T'
  | 0, S', T', h1, h2 => by cases h1; cases h2; exact h
  | s + 1, S', T', h1, h2 => by
    have h1' : (runO g hh n S s).bind (stepO g hh n) = some S' := h1
    have h2' : (runO g hh n T s).bind (stepO g hh n) = some T' := h2
    cases e1 : runO g hh n S s with
    | none => rw [e1] at h1'; cases h1'
    | some Q =>
      cases e2 : runO g hh n T s with
      | none => rw [e2] at h2'; cases h2'
      | some U => rw [e1] at h1'; rw [e2] at h2'; exact moved_step (moved_run h s e1 e2) h1' h2'
theorem moved_R {m : Nat → Int} {n gw : Nat} {S T : Nat → Int} {N : Int} (h : Moved m n S T) (h1 : (runR gw n S N).1 = 0) (h2 : (runR gw n T N).1 = 0) : Moved m n (runR gw n S N).2 (runR gw n T N).2 :=
  moved_run h _ (runR_zero h1).2.2 (runR_zero h2).2.2

/-! ### an axis turned about -/
def flip (κ c : Nat) (x : Int) : Int := if c = κ then -x else x
theorem flip_add (κ c : Nat) (x y : Int) : flip κ c (x + y) = flip κ c x + flip κ c y := by unfold flip; split <;> omega
theorem flip_mul (κ c : Nat) (h x : Int) : flip κ c (h * x) = h * flip κ c x := by unfold flip; split
                                                                                   · rw [Int.mul_neg]
                                                                                   · rfl
def Turned (κ n : Nat) (S T : Nat → Int) : Prop := ∀ i, i < n → T (i * 7) = S (i * 7) ∧ ∀ c, c < 3 → T (i * 7 + (1 + c)) = flip κ c (S (i * 7 + (1 + c))) ∧ T (i * 7 + (4 + c)) = flip κ c (S (i * 7 + (4 + c)))
theorem flip_okX {κ c : Nat} {x : Int} : okX (flip κ c x) ↔ okX x := by unfold flip okX; split <;> omega
theorem flip_okP {κ c : Nat} {x : Int} : okP (flip κ c x) ↔ okP x := by unfold flip okP; split <;> omega
theorem turned_ok {κ n : Nat} {S T : Nat → Int} (h : Turned κ n S T) : okAll n T ↔ okAll n S := by
  have key : ∀ i, i < n → (okM T i ↔ okM S i) := fun i hi => by
    obtain ⟨h0, hc⟩ := h i hi
    unfold okM
    rw [h0]
    constructor
    · rintro ⟨a, b⟩
      refine ⟨a, fun k hk => ?_⟩
      have := b k hk
      rw [Nat.add_assoc, Nat.add_assoc, (hc k hk).1, (hc k hk).2, flip_okX, flip_okP] at this
      rw [Nat.add_assoc, Nat.add_assoc]; exact this
    · rintro ⟨a, b⟩
      refine ⟨a, fun k hk => ?_⟩
      have := b k hk
      rw [Nat.add_assoc, Nat.add_assoc] at this
      rw [Nat.add_assoc, Nat.add_assoc, (hc k hk).1, (hc k hk).2, flip_okX, flip_okP]; exact this
  exact ⟨fun hT i hi => (key i hi).1 (hT i hi), fun hS i hi => (key i hi).2 (hS i hi)⟩
theorem rd_flip {κ c : Nat} {p m : Int} (hp : okP p) (hm : 1 ≤ m ∧ m ≤ 1048576) : rd (flip κ c p) m = flip κ c (rd p m) := by
  unfold flip
  split
  · exact (drift_word hp hm).2.2.2
  · rfl
theorem turned_drift {κ n : Nat} {S T : Nat → Int} (hh : Int) (hok : okAll n S) (h : Turned κ n S T) : Turned κ n (driftS hh S) (driftS hh T) := by
  intro i hi
  obtain ⟨h0, hc⟩ := h i hi
  refine ⟨by rw [driftS_m, driftS_m, h0], fun c hc3 => ?_⟩
  obtain ⟨hx, hp⟩ := hc c hc3
  have ho := ((hok i hi).2 c hc3).2
  rw [Nat.add_assoc] at ho
  rw [driftS_at _ _ _ _ hc3, driftS_at _ _ _ _ hc3, driftS_same _ _ _ _ (by omega) (by omega), driftS_same _ _ _ _ (by omega) (by omega), hx, hp, h0, rd_flip ho (hok i hi).1, flip_add, flip_mul]
  exact ⟨rfl, rfl⟩
theorem pk_flip (g : Nat) (mm d0 d1 d2 : Int) (κ c : Nat) (d : Int) : pk g mm (flip κ 0 d0) (flip κ 1 d1) (flip κ 2 d2) (flip κ c d) = flip κ c (pk g mm d0 d1 d2 d) := by
  have e : pk g mm (flip κ 0 d0) (flip κ 1 d1) (flip κ 2 d2) (flip κ c d) = pk g mm d0 d1 d2 (flip κ c d) := by
    have e0 : ∀ a b x, pk g mm (flip κ 0 d0) a b x = pk g mm d0 a b x := fun a b x => by
      unfold flip; split
      · exact pk_even0 ..
      · rfl
    have e1 : ∀ a b x, pk g mm a (flip κ 1 d1) b x = pk g mm a d1 b x := fun a b x => by
      unfold flip; split
      · exact pk_even1 ..
      · rfl
    have e2 : ∀ a b x, pk g mm a b (flip κ 2 d2) x = pk g mm a b d2 x := fun a b x => by
      unfold flip; split
      · exact pk_even2 ..
      · rfl
    rw [e0, e1, e2]
  rw [e]
  unfold flip
  split
  · exact pk_odd ..
  · rfl
theorem flip_sub (κ c : Nat) (x y : Int) : flip κ c x - flip κ c y = flip κ c (x - y) := by unfold flip; split <;> omega
theorem turned_fr {κ n g : Nat} {S T : Nat → Int} (h : Turned κ n S T) {a b c : Nat} (ha : a < n) (hb : b < n) (hc : c < 3) : fr g T a b c = flip κ c (fr g S a b c) := by
  obtain ⟨a0, ac⟩ := h a ha
  obtain ⟨b0, bc⟩ := h b hb
  have d : ∀ e, e < 3 → T (b * 7 + 1 + e) - T (a * 7 + 1 + e) = flip κ e (S (b * 7 + 1 + e) - S (a * 7 + 1 + e)) := fun e he => by
    have h1 := (ac e he).1
    have h2 := (bc e he).1
    rw [← Nat.add_assoc] at h1 h2
    rw [h1, h2, flip_sub]
  have d0 := d 0 (by omega)
  have d1 := d 1 (by omega)
  have d2 := d 2 (by omega)
  simp only [Nat.add_zero] at d0
  rw [show b * 7 + 1 + 1 = b * 7 + 2 from rfl, show a * 7 + 1 + 1 = a * 7 + 2 from rfl] at d1
  rw [show b * 7 + 1 + 2 = b * 7 + 3 from rfl, show a * 7 + 1 + 2 = a * 7 + 3 from rfl] at d2
  rw [fr_eq, fr_eq, a0, b0, d0, d1, d2, d c hc, pk_flip]
theorem flip_sum (κ c n : Nat) (F : Nat → Int) : sumTo n (fun b => flip κ c (F b)) = flip κ c (sumTo n F) := by
  unfold flip
  split
  · exact sumTo_neg n F
  · rfl
theorem turned_kick {κ n : Nat} {S T : Nat → Int} (g : Nat) (hh : Int) (h : Turned κ n S T) : Turned κ n (kickS g hh n S) (kickS g hh n T) := by
  intro i hi
  obtain ⟨h0, hc⟩ := h i hi
  have l0 := fun Q => kickS_low g hh n Q i 0 (by omega)
  simp only [Nat.add_zero] at l0
  refine ⟨by rw [l0, l0, h0], fun c hc3 => ?_⟩
  obtain ⟨hx, hp⟩ := hc c hc3
  rw [kickS_low _ _ _ _ _ _ (by omega), kickS_low _ _ _ _ _ _ (by omega), kickS_at _ _ _ _ _ _ hc3, kickS_at _ _ _ _ _ _ hc3, hx, hp]
  exact ⟨rfl, by rw [sumTo_congr (fun b hb => turned_fr h hi hb hc3), flip_sum, flip_add, flip_mul]⟩
theorem turned_step {κ n : Nat} {S T : Nat → Int} (g : Nat) (hh : Int) (hok : okAll n S) (h : Turned κ n S T) : Ends (Turned κ n) (stepO g hh n S) (stepO g hh n T) := by
  have d1 := turned_drift hh hok h
  have k1 := turned_kick g hh d1
  unfold stepO
  by_cases h1 : okAll n (driftS hh S)
  · rw [if_pos h1, if_pos ((turned_ok d1).2 h1)]
    by_cases h2 : okAll n (kickS g hh n (driftS hh S))
    · have d2 := turned_drift hh h2 k1
      rw [if_pos h2, if_pos ((turned_ok k1).2 h2)]
      by_cases h3 : okAll n (driftS hh (kickS g hh n (driftS hh S)))
      · rw [if_pos h3, if_pos ((turned_ok d2).2 h3)]; exact d2
      · rw [if_neg h3, if_neg (fun e => h3 ((turned_ok d2).1 e))]; trivial
    · rw [if_neg h2, if_neg (fun e => h2 ((turned_ok k1).1 e))]; trivial
  · rw [if_neg h1, if_neg (fun e => h1 ((turned_ok d1).1 e))]; trivial
theorem turned_run {κ n : Nat} {S T : Nat → Int} (g : Nat) (hh : Int) (hok : okAll n S) (h : Turned κ n S T) : ∀ s, Ends (Turned κ n) (runO g hh n S s) (runO g hh n T s)
  | 0 => h
  | s + 1 => by
    have ih := turned_run g hh hok h s
    show Ends _ ((runO g hh n S s).bind _) ((runO g hh n T s).bind _)
    cases h1 : runO g hh n S s with
    | none =>
      cases h2 : runO g hh n T s with
      | none => trivial
      | some U => rw [h1, h2] at ih; exact ih.elim
    | some Q =>
      cases h2 : runO g hh n T s with
      | none => rw [h1, h2] at ih; exact ih.elim
      | some U => rw [h1, h2] at ih; exact turned_step g hh (runO_ok hok s h1) ih
theorem turned_R {κ n gw : Nat} {S T : Nat → Int} {N : Int} (hc : chk n T = chk n S) (h : chk n S = 0 → Turned κ n S T) : (runR gw n T N).1 = (runR gw n S N).1 ∧ ((runR gw n S N).1 = 0 → Turned κ n (runR gw n S N).2 (runR gw n T N).2) := by
  by_cases h1 : chk n S = 0
  · by_cases h2 : N < -4096 ∨ 4096 < N ∨ geB gw = false ∨ leB gw = false
    · rw [runR_arg h1 h2, runR_arg (hc.trans h1) h2]; exact ⟨rfl, fun e => by cases e⟩
    · have hr := turned_run gw (sgnN N) (chk_zero.1 h1).2 (h h1) N.natAbs
      cases h3 : runO gw (sgnN N) n S N.natAbs with
      | none =>
        cases h4 : runO gw (sgnN N) n T N.natAbs with
        | none => rw [runR_none h1 h2 h3, runR_none (hc.trans h1) h2 h4]; exact ⟨rfl, fun e => by cases e⟩
        | some U => rw [h3, h4] at hr; exact hr.elim
      | some Q =>
        cases h4 : runO gw (sgnN N) n T N.natAbs with
        | none => rw [h3, h4] at hr; exact hr.elim
        | some U =>
          rw [h3, h4] at hr
          rw [runR_some h1 h2 h3, runR_some (hc.trans h1) h2 h4]; exact ⟨rfl, fun _ => hr⟩
  · rw [runR_chk h1, runR_chk (by rw [hc]; exact h1), hc]; exact ⟨rfl, fun e => absurd e h1⟩
end Go.Proofs.Ytjapohjfheielaa
