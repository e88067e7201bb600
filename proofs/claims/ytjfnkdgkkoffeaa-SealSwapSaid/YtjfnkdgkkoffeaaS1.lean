/- Plain law of sealed lines, part two: one byte turned, two bytes changed about. Conditions: those of each sentence. -/
import Derived.Test.YtjfnkdgkkoffeaaS0
namespace SealLaw

/-- the number that a line hands on -/
def next (l : Bytes) : Nat := (told l).getD 0
theorem lookOne_next (s : Nat) (l : Bytes) : (lookOne s l).2.2 = next l := by
  unfold lookOne next; cases told l <;> rfl

/-- a line's state hangs on the line and on the one ahead of it -/
theorem lookL_get : ∀ (ls : List Bytes) (s k : Nat) (l : Bytes), ls[k]? = some l →
    (lookL s ls).2[k]? = some (lookOne (if k = 0 then s else next (ls.getD (k - 1) [])) l).2.1
  | [], _, _, _, h => by simp at h
  | a :: ls, _, 0, l, h => by
    have : a = l := by simpa using h
    subst this; rfl
  | a :: ls, s, k + 1, l, h => by
    have h' : ls[k]? = some l := by simpa using h
    have ih := lookL_get ls (lookOne s a).2.2 k l h'
    show (lookL (lookOne s a).2.2 ls).2[k]? = _
    rw [ih, lookOne_next]
    cases k with
    | zero => simp
    | succ k => simp

/-- turning one line leaves the states of all but it and the next -/
theorem lookL_set {ls : List Bytes} {n : Nat} {l' : Bytes} (s : Nat) {k : Nat} (hk : k < ls.length) (h1 : k ≠ n) (h2 : k ≠ n + 1 ∨ next l' = next (ls.getD n [])) :
    (lookL s (ls.set n l')).2[k]? = (lookL s ls).2[k]? := by
  obtain ⟨l, hl⟩ : ∃ l, ls[k]? = some l := ⟨_, List.getElem?_eq_getElem hk⟩
  have hl' : (ls.set n l')[k]? = some l := by rw [List.getElem?_set_ne (fun e => h1 e.symm)]; exact hl
  rw [lookL_get _ _ _ _ hl, lookL_get _ _ _ _ hl']
  by_cases h0 : k = 0
  · simp [h0]
  · rw [if_neg h0, if_neg h0]
    congr 3
    by_cases hn : n = k - 1
    · have : next l' = next (ls.getD n []) := by rcases h2 with h2 | h2
                                                 · omega
                                                 · exact h2
      rw [← hn]
      by_cases hlen : n < ls.length
      · rw [show (ls.set n l').getD n [] = l' from by simp [List.getD, List.getElem?_set_self hlen]]; rw [this]
      · omega
    · rw [show (ls.set n l').getD (k - 1) [] = ls.getD (k - 1) [] from by simp [List.getD, List.getElem?_set_ne hn]]

theorem lookL_set_at {ls : List Bytes} {n : Nat} {l' : Bytes} (s : Nat) (hn : n < ls.length) :
    (lookL s (ls.set n l')).2[n]? = some (lookOne (if n = 0 then s else next (ls.getD (n - 1) [])) l').2.1 := by
  have hl' : (ls.set n l')[n]? = some l' := List.getElem?_set_self hn
  rw [lookL_get _ _ _ _ hl']
  by_cases h0 : n = 0
  · simp [h0]
  · rw [if_neg h0, if_neg h0, show (ls.set n l').getD (n - 1) [] = ls.getD (n - 1) [] from by simp [List.getD, List.getElem?_set_ne (show n ≠ n - 1 from by omega)]]

/-- one byte of a text turned: the line that holds it, turned -/
theorem cutL_turn {c d : UInt8} (hc : c ≠ 10) (hd : d ≠ 10) (b : Bytes) : ∀ a : Bytes, (a.filter (· == 10)).length < (cutL (a ++ c :: b)).1.length →
    ∃ p q, (cutL (a ++ c :: b)).1[(a.filter (· == 10)).length]? = some (p ++ c :: q) ∧
      cutL (a ++ d :: b) = ((cutL (a ++ c :: b)).1.set (a.filter (· == 10)).length (p ++ d :: q), (cutL (a ++ c :: b)).2)
  | [], h => by
    simp only [List.nil_append, cutL, if_neg hc, if_neg hd] at h ⊢
    cases hb : (cutL b).1 with
    | nil => rw [hb] at h; simp at h
    | cons l ls => exact ⟨[], l, by simp, by simp⟩
  | e :: a, h => by
    by_cases he : e = 10
    · subst he
      rw [List.cons_append, cutL, if_pos rfl] at h ⊢
      have hf : (((10 : UInt8) :: a).filter (· == 10)).length = (a.filter (· == 10)).length + 1 := by simp
      rw [hf] at h ⊢
      have h' : (a.filter (· == 10)).length < (cutL (a ++ c :: b)).1.length := by simpa using h
      obtain ⟨p, q, h1, h2⟩ := cutL_turn hc hd b a h'
      refine ⟨p, q, by simpa using h1, ?_⟩
      rw [List.cons_append, cutL, if_pos rfl, h2]
      simp
    · have hf : ((e :: a).filter (· == 10)).length = (a.filter (· == 10)).length := by
        rw [List.filter_cons_of_neg (by simpa using he)]
      rw [hf] at h ⊢
      rw [List.cons_append, cutL, if_neg he] at h ⊢
      have h' : (a.filter (· == 10)).length < (cutL (a ++ c :: b)).1.length := by
        cases hx : (cutL (a ++ c :: b)).1 with
        | nil => rw [hx] at h; exact h
        | cons l ls => rw [hx] at h; simpa using h
      obtain ⟨p, q, h1, h2⟩ := cutL_turn hc hd b a h'
      generalize (a.filter (· == 10)).length = n at *
      rw [List.cons_append, cutL, if_neg he, h2]
      cases hx : (cutL (a ++ c :: b)).1 with
      | nil => rw [hx] at h'; simp at h'
      | cons l ls =>
        rw [hx] at h1
        cases n with
        | zero =>
          have : l = p ++ c :: q := by simpa using h1
          exact ⟨e :: p, q, by simp [this], by simp⟩
        | succ n => exact ⟨p, q, by simpa using h1, by simp⟩

/-! ### one sealed line with a byte turned -/
theorem told_eq {l : Bytes} {a t : Bytes} (hl : l = a ++ t) (ht : t.length = 9) : told l = (if t[0]? = some 32 then numL 0 (t.drop 1) else none) ∧ said l = a := by
  subst hl
  have hlen : (a ++ t).length = a.length + 9 := by simp [ht]
  unfold told said
  rw [hlen, Nat.add_sub_cancel]
  constructor
  · rw [List.getElem?_append_right (Nat.le_refl _), Nat.sub_self, show a.length + 9 - 8 = a.length + 1 from by omega, List.drop_append, List.drop_eq_nil_of_le (by omega)]
    simp
  · simp

theorem split_append {p q a t : Bytes} {c : UInt8} (h : a ++ t = p ++ c :: q) : (∃ a2, a = p ++ c :: a2 ∧ q = a2 ++ t) ∨ (∃ t1, p = a ++ t1 ∧ t = t1 ++ c :: q) := by
  rcases List.append_eq_append_iff.1 h with ⟨x, h1, h2⟩ | ⟨x, h1, h2⟩
  · right; exact ⟨x, h1, h2⟩
  · cases x with
    | nil => right; exact ⟨[], by simpa using h1.symm, by simpa using h2.symm⟩
    | cons y x =>
      left
      rw [List.cons_append] at h2
      have h3 := List.cons.inj h2
      exact ⟨x, by rw [h1, ← h3.1], h3.2⟩

theorem one_turned {s : Nat} (hs : s < P) (l p q : Bytes) {c d : UInt8} (hcd : c ≠ d) (h : l ++ 32 :: hexL (sumN s l) = p ++ c :: q) :
    (lookOne s (p ++ d :: q)).2.1 = 90 ∨ (lookOne s (p ++ d :: q)).2.1 = 230 := by
  unfold lookOne
  cases ht : told (p ++ d :: q) with
  | none => left; rfl
  | some v =>
    right
    simp only
    rw [Nat.mod_eq_of_lt hs, if_neg]
    intro he
    have hlt := sumN_lt hs l
    rcases split_append h with ⟨a2, h1, h2⟩ | ⟨t1, h1, h2⟩
    · have e := told_eq (l := p ++ d :: q) (a := p ++ d :: a2) (t := 32 :: hexL (sumN s l)) (by rw [h2]; simp) rfl
      rw [e.1] at ht
      rw [e.2] at he
      simp only [List.getElem?_cons_zero, if_pos, List.drop_succ_cons, List.drop_zero] at ht
      rw [numL_hex (Nat.lt_trans hlt (by decide))] at ht
      rw [← Option.some.inj ht] at he
      rw [h1] at he
      exact sumN_byte hs p a2 hcd he.symm
    · have hlen : (t1 ++ d :: q).length = 9 := by
        have := congrArg List.length h2
        simp [hexL_length] at this ⊢; omega
      have e := told_eq (l := p ++ d :: q) (a := l) (t := t1 ++ d :: q) (by rw [h1]; simp) hlen
      rw [e.1] at ht
      rw [e.2] at he
      cases t1 with
      | nil =>
        have h3 := List.cons.inj h2
        rw [if_neg] at ht
        · cases ht
        · simp only [List.nil_append, List.getElem?_cons_zero, Option.some.injEq]
          intro e; exact hcd (by rw [← h3.1, e])
      | cons x t1 =>
        have h3 := List.cons.inj h2
        have hx : x = 32 := h3.1.symm
        subst hx
        simp only [List.cons_append, List.getElem?_cons_zero, if_pos, List.drop_succ_cons, List.drop_zero] at ht
        have h4 := hex_numL (l := t1 ++ d :: q) (by simpa using hlen) ht
        rw [he] at h3
        have h5 : t1 ++ c :: q = t1 ++ d :: q := by rw [← h4.1]; exact h3.2.symm
        have h6 := List.append_cancel_left h5
        exact hcd (List.cons.inj h6).1

theorem one_swapped {s : Nat} (hs : s < P) (p q : Bytes) {c d : UInt8} (hcd : c ≠ d) (r : Bytes) (hr : r = p ++ c :: d :: q) :
    (lookOne s ((p ++ d :: c :: q) ++ 32 :: hexL (sumN s r))).2.1 = 230 ∧ next ((p ++ d :: c :: q) ++ 32 :: hexL (sumN s r)) = next (r ++ 32 :: hexL (sumN s r)) := by
  have hlt := sumN_lt hs r
  have h4 : sumN s r < 4294967296 := Nat.lt_trans hlt (by decide)
  obtain ⟨h1, h2⟩ := told_sealed (p ++ d :: c :: q) (sumN s r) h4
  obtain ⟨h3, _⟩ := told_sealed r (sumN s r) h4
  constructor
  · unfold lookOne
    rw [h1, h2]
    simp only
    rw [Nat.mod_eq_of_lt hs, if_neg]
    rw [hr]
    exact fun e => sumN_swap hs p q hcd e.symm
  · unfold next; rw [h1, h3]

/-! ### whole sealed texts -/
theorem sealLs_length (s : Nat) (ls : List Bytes) : (sealLs s ls).length = ls.length := by
  induction ls generalizing s with
  | nil => rfl
  | cons l ls ih => simp [sealLs, ih]

/-- the number ahead of line n -/
def ahead : Nat → List Bytes → Nat → Nat
  | s, _, 0 => s
  | s, [], _ + 1 => s
  | s, l :: ls, n + 1 => ahead (sumN s l) ls n

theorem ahead_lt : ∀ (ls : List Bytes) (s n : Nat), s < P → ahead s ls n < P
  | _, _, 0, h => h
  | [], _, _ + 1, h => h
  | l :: ls, _, n + 1, h => ahead_lt ls _ n (sumN_lt h l)

theorem sealLs_get : ∀ (ls : List Bytes) (s n : Nat) (l : Bytes), ls[n]? = some l → (sealLs s ls)[n]? = some (l ++ 32 :: hexL (sumN (ahead s ls n) l))
  | [], _, _, _, h => by simp at h
  | a :: ls, _, 0, l, h => by
    have : a = l := by simpa using h
    subst this; rfl
  | a :: ls, s, n + 1, l, h => by
    have h' : ls[n]? = some l := by simpa using h
    exact sealLs_get ls (sumN s a) n l h'

theorem sealLs_ahead : ∀ (ls : List Bytes) (s n : Nat), s < P → n < ls.length → (if n = 0 then s else next ((sealLs s ls).getD (n - 1) [])) = ahead s ls n
  | _, _, 0, _, _ => rfl
  | [], _, _ + 1, _, h => by simp at h
  | l :: ls, s, n + 1, hs, h => by
    have ih := sealLs_ahead ls (sumN s l) n (sumN_lt hs l) (by simpa using h)
    rw [if_neg (by omega)]
    show next ((sealLs s (l :: ls)).getD n []) = ahead (sumN s l) ls n
    rw [← ih]
    cases n with
    | zero =>
      obtain ⟨h1, _⟩ := told_sealed l (sumN s l) (Nat.lt_trans (sumN_lt hs l) (by decide))
      simp [sealLs, next, h1]
    | succ n => simp [sealLs]

theorem look_sealed_get {ls : List Bytes} {k : Nat} (hk : k < ls.length) : (lookL 0 (sealLs 0 ls)).2[k]? = some 0 := by
  rw [look_sealed (by decide)]
  simp [hk]

/-- ONE BYTE TURNED: the states of the lines -/
theorem byte_told {ls : List Bytes} (hls : ∀ l ∈ ls, (10 : UInt8) ∉ l) {a b : Bytes} {c d : UInt8} (ht : sealT 0 ls = a ++ c :: b) (hc : c ≠ 10) (hd : d ≠ 10) (hcd : c ≠ d) :
    ∃ us, cutL (a ++ d :: b) = (us, []) ∧ us.length = ls.length ∧ (a.filter (· == 10)).length < ls.length ∧
      (∀ k, k < ls.length → k ≠ (a.filter (· == 10)).length → k ≠ (a.filter (· == 10)).length + 1 → (lookL 0 us).2[k]? = some 0) ∧
      ((lookL 0 us).2[(a.filter (· == 10)).length]? = some 90 ∨ (lookL 0 us).2[(a.filter (· == 10)).length]? = some 230) := by
  have hcut := cut_sealT 0 ls hls
  rw [ht] at hcut
  -- the place lies ahead of a line feed
  have hn : (a.filter (· == 10)).length < ls.length := by
    have h1 : ∀ (x : Bytes), (x.filter (· == 10)).length = (cutL x).1.length := by
      intro x
      induction x with
      | nil => rfl
      | cons e x ih =>
        rw [cutL]
        by_cases he : e = 10
        · subst he; simp [ih]
        · rw [List.filter_cons_of_neg (by simpa using he), if_neg he, ih]
          cases (cutL x).1 <;> rfl
    have h2 : (cutL (a ++ c :: b)).1.length = ls.length := by rw [hcut]; exact sealLs_length 0 ls
    rw [← h1, List.filter_append, List.length_append] at h2
    have h3 : (b.filter (· == 10)).length ≠ 0 := by
      intro h0
      have h4 : (10 : UInt8) ∉ b := by
        intro hm
        have : (10 : UInt8) ∈ b.filter (· == 10) := List.mem_filter.2 ⟨hm, by decide⟩
        rw [List.length_eq_zero_iff.1 h0] at this
        cases this
      -- then the text does not end with a line's end
      have h5 : ∀ x : Bytes, (cutL (x ++ c :: b)).2 ≠ [] := by
        intro x
        induction x with
        | nil =>
          have : (10 : UInt8) ∉ c :: b := by
            intro hm; rcases List.mem_cons.1 hm with h | h
            · exact hc h.symm
            · exact h4 h
          rw [List.nil_append, cutL_rest _ this]; simp
        | cons e x ih =>
          rw [List.cons_append, cutL]
          by_cases he : e = 10
          · rw [if_pos he]; exact ih
          · rw [if_neg he]
            cases (cutL (x ++ c :: b)).1 with
            | nil => simp
            | cons l ls => exact ih
      have := h5 a
      rw [hcut] at this
      exact this rfl
    rw [List.filter_cons_of_neg (by simpa using hc)] at h2
    omega
  obtain ⟨p, q, h1, h2⟩ := cutL_turn hc hd b a (by rw [hcut]; show _ < (sealLs 0 ls).length; rw [sealLs_length]; exact hn)
  rw [hcut] at h1 h2
  simp only at h1 h2
  have hlen := sealLs_length 0 ls
  refine ⟨_, h2, by rw [List.length_set, hlen], hn, ?_, ?_⟩
  · intro k hk hk1 hk2
    rw [lookL_set 0 (by rw [hlen]; exact hk) hk1 (Or.inl hk2)]
    exact look_sealed_get hk
  · rw [lookL_set_at 0 (by rw [hlen]; exact hn), sealLs_ahead ls 0 _ (by decide) hn]
    have hg := sealLs_get ls 0 _ _ (List.getElem?_eq_getElem hn)
    rw [h1] at hg
    have := one_turned (ahead_lt ls 0 _ (by decide)) _ p q hcd (Option.some.inj hg).symm
    rcases this with h | h
    · left; rw [h]
    · right; rw [h]

theorem joinL_append : ∀ (X : List Bytes) (l : Bytes) (Y : List Bytes) (r : Bytes), joinL (X ++ l :: Y) r = joinL X [] ++ l ++ 10 :: joinL Y r
  | [], _, _, _ => rfl
  | x :: X, l, Y, r => by
    show x ++ 10 :: joinL (X ++ l :: Y) r = (x ++ 10 :: joinL X []) ++ l ++ 10 :: joinL Y r
    rw [joinL_append X l Y r]; simp

/-- how long the lines ahead of line n are, sealed -/
def fromL (ls : List Bytes) (n : Nat) : Nat := ((ls.take n).map (fun l => l.length + 10)).sum

theorem fromL_succ {ls : List Bytes} {n : Nat} {l : Bytes} (h : ls[n]? = some l) : fromL ls (n + 1) = fromL ls n + (l.length + 10) := by
  unfold fromL
  rw [List.take_add_one, h]
  simp

theorem joinL_take (ls : List Bytes) : ∀ (s n : Nat), (joinL ((sealLs s ls).take n) []).length = fromL ls n := by
  induction ls with
  | nil => intro s n; simp [sealLs, joinL, fromL]
  | cons l ls ih =>
    intro s n
    cases n with
    | zero => simp [joinL, fromL]
    | succ n =>
      have := ih (sumN s l) n
      simp only [sealLs, List.take_succ_cons, joinL, fromL, List.map_cons, List.sum_cons, List.length_append, List.length_cons, hexL_length] at this ⊢
      rw [this]; omega

/-- TWO BYTES CHANGED ABOUT: the states of the lines -/
theorem swap_told {ls : List Bytes} (hls : ∀ l ∈ ls, (10 : UInt8) ∉ l) {n : Nat} {l p q : Bytes} {c d : UInt8} (hn : ls[n]? = some l) (hl : l = p ++ c :: d :: q) (hcd : c ≠ d) :
    ∃ A B us, sealT 0 ls = A ++ c :: d :: B ∧ A.length = fromL ls n + p.length ∧ cutL (A ++ d :: c :: B) = (us, []) ∧ us.length = ls.length ∧
      (lookL 0 us).2[n]? = some 230 ∧ (∀ k, k < ls.length → k ≠ n → (lookL 0 us).2[k]? = some 0) := by
  obtain ⟨hlt, hget⟩ := List.getElem?_eq_some_iff.1 hn
  have hS := sealLs_get ls 0 n l hn
  have hlen := sealLs_length 0 ls
  have hsplit : sealLs 0 ls = (sealLs 0 ls).take n ++ (l ++ 32 :: hexL (sumN (ahead 0 ls n) l)) :: (sealLs 0 ls).drop (n + 1) := by
    obtain ⟨h1, h2⟩ := List.getElem?_eq_some_iff.1 hS
    rw [← h2, List.getElem_cons_drop, List.take_append_drop]
  generalize hs : sumN (ahead 0 ls n) l = v at *
  have hset : (sealLs 0 ls).set n ((p ++ d :: c :: q) ++ 32 :: hexL v) = (sealLs 0 ls).take n ++ ((p ++ d :: c :: q) ++ 32 :: hexL v) :: (sealLs 0 ls).drop (n + 1) := by
    rw [List.set_eq_take_append_cons_drop, if_pos (by rw [hlen]; exact hlt)]
  have hno := sealLs_no10 0 ls hls
  have hl10 : (10 : UInt8) ∉ l := hls l (by rw [← hget]; exact List.getElem_mem hlt)
  have hno' : ∀ x ∈ (sealLs 0 ls).set n ((p ++ d :: c :: q) ++ 32 :: hexL v), (10 : UInt8) ∉ x := by
    intro x hx
    rcases List.mem_or_eq_of_mem_set hx with hx | rfl
    · exact hno x hx
    · rw [hl] at hl10
      intro hm
      rcases List.mem_append.1 hm with hm | hm
      · apply hl10
        simp only [List.mem_append, List.mem_cons] at hm ⊢
        rcases hm with hm | hm | hm | hm
        · exact Or.inl hm
        · exact Or.inr (Or.inr (Or.inl hm))
        · exact Or.inr (Or.inl hm)
        · exact Or.inr (Or.inr (Or.inr hm))
      · rcases List.mem_cons.1 hm with hm | hm
        · exact absurd hm (by decide)
        · exact hexL_no10 _ hm
  have hsw := one_swapped (ahead_lt ls 0 n (by decide)) p q hcd l hl
  rw [hs] at hsw
  refine ⟨joinL ((sealLs 0 ls).take n) [] ++ p, q ++ 32 :: hexL v ++ 10 :: joinL ((sealLs 0 ls).drop (n + 1)) [], (sealLs 0 ls).set n ((p ++ d :: c :: q) ++ 32 :: hexL v), ?_, ?_, ?_, ?_, ?_, ?_⟩
  · rw [sealT_join, hsplit, joinL_append, ← hsplit, hl]; simp
  · rw [List.length_append, joinL_take]
  · have : joinL ((sealLs 0 ls).take n) [] ++ p ++ d :: c :: (q ++ 32 :: hexL v ++ 10 :: joinL ((sealLs 0 ls).drop (n + 1)) []) = joinL ((sealLs 0 ls).set n ((p ++ d :: c :: q) ++ 32 :: hexL v)) [] := by
      rw [hset, joinL_append]; simp
    rw [this]
    exact cutL_joinL _ hno'
  · rw [List.length_set, hlen]
  · rw [lookL_set_at 0 (by rw [hlen]; exact hlt), sealLs_ahead ls 0 n (by decide) hlt, hsw.1]
  · intro k hk hkn
    rw [lookL_set 0 (by rw [hlen]; exact hk) hkn (Or.inr (by rw [hsw.2, show (sealLs 0 ls).getD n [] = l ++ 32 :: hexL v from by simp [List.getD, hS]]))]
    exact look_sealed_get hk
end SealLaw
