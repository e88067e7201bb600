/- Plain law of sealed lines: the checksum as a chain of injective steps; lines cut, sealed and looked at, said of lists of bytes. No program in sight. Conditions: none but those of each sentence. -/
namespace SealLaw

def P : Nat := 2147483647   -- 2^31 - 1
abbrev Bytes := List UInt8

/-- one step of the checksum; the checksum of bytes behind a number -/
def step (s : Nat) (c : UInt8) : Nat := (s * 257 + c.toNat + 1) % P
def sumN (s : Nat) (l : Bytes) : Nat := l.foldl step s

theorem step_lt (s : Nat) (c : UInt8) : step s c < P := Nat.mod_lt _ (by decide)
theorem sumN_lt {s : Nat} (h : s < P) (l : Bytes) : sumN s l < P := by
  induction l generalizing s with
  | nil => exact h
  | cons c l ih => exact ih (step_lt s c)
theorem sumN_cons (s : Nat) (c : UInt8) (l : Bytes) : sumN s (c :: l) = sumN (step s c) l := rfl
theorem sumN_append (s : Nat) (a b : Bytes) : sumN s (a ++ b) = sumN (sumN s a) b := List.foldl_append ..

theorem mod_cancel {a b m p : Nat} (h : (a + m) % p = (b + m) % p) : a % p = b % p := by
  have h1 : ((a + m : Nat) : Int) % (p : Int) = ((b + m : Nat) : Int) % (p : Int) := by
    rw [← Int.natCast_emod, ← Int.natCast_emod, h]
  rw [Int.emod_eq_emod_iff_emod_sub_eq_zero] at h1
  have h2 : (a : Int) % (p : Int) = (b : Int) % (p : Int) := by
    rw [Int.emod_eq_emod_iff_emod_sub_eq_zero]
    rw [← h1]; congr 1; omega
  rw [← Int.natCast_emod, ← Int.natCast_emod] at h2
  exact Int.ofNat.inj h2

theorem two_steps (t m n p : Nat) : ((t * 257 + m + 1) % p * 257 + n + 1) % p = ((m * 257 + n) + (t * 257 * 257 + 258)) % p := by
  have h1 : ∀ x k : Nat, (x % p * 257 + k) % p = (x * 257 + k) % p := by
    intro x k
    rw [Nat.add_mod, Nat.mul_mod, Nat.mod_mod, ← Nat.mul_mod, ← Nat.add_mod]
  rw [Nat.add_assoc _ n 1, h1]
  have h2 : (t * 257 + m + 1) * 257 + (n + 1) = m * 257 + n + (t * 257 * 257 + 258) := by
    omega
  rw [h2]

/-- 257 has an inverse: the step is injective -/
theorem inv257 : 257 * 16711935 % P = 1 := by decide
theorem step_inj {s t : Nat} (hs : s < P) (ht : t < P) (c : UInt8) (h : step s c = step t c) : s = t := by
  have h2 : s * 257 % P = t * 257 % P := by
    refine mod_cancel (m := c.toNat + 1) ?_
    rw [← Nat.add_assoc, ← Nat.add_assoc]; exact h
  have h3 : s * 257 * 16711935 % P = t * 257 * 16711935 % P := by
    rw [Nat.mul_mod, h2, ← Nat.mul_mod]
  have h4 : ∀ u, u < P → u * 257 * 16711935 % P = u := by
    intro u hu
    rw [Nat.mul_assoc, Nat.mul_mod, inv257, Nat.mul_one, Nat.mod_mod, Nat.mod_eq_of_lt hu]
  rw [h4 s hs, h4 t ht] at h3
  exact h3

theorem sumN_inj {s t : Nat} (hs : s < P) (ht : t < P) (l : Bytes) (h : s ≠ t) : sumN s l ≠ sumN t l := by
  induction l generalizing s t with
  | nil => exact h
  | cons c l ih => exact ih (step_lt s c) (step_lt t c) (fun e => h (step_inj hs ht c e))

theorem step_byte (s : Nat) {c d : UInt8} (h : c ≠ d) : step s c ≠ step s d := by
  intro e
  have h1 : c.toNat % P = d.toNat % P := by
    refine mod_cancel (m := s * 257 + 1) ?_
    have e1 : ∀ n : Nat, n + (s * 257 + 1) = s * 257 + n + 1 := fun n => by omega
    rw [e1, e1]; exact e
  have hc := c.toNat_lt
  have hd := d.toNat_lt
  rw [Nat.mod_eq_of_lt (Nat.lt_trans hc (by decide)), Nat.mod_eq_of_lt (Nat.lt_trans hd (by decide))] at h1
  exact h (UInt8.toNat_inj.1 h1)

theorem sumN_byte {s : Nat} (_hs : s < P) (a b : Bytes) {c d : UInt8} (h : c ≠ d) : sumN s (a ++ c :: b) ≠ sumN s (a ++ d :: b) := by
  rw [sumN_append, sumN_append, sumN_cons, sumN_cons]
  exact sumN_inj (step_lt _ _) (step_lt _ _) b (step_byte _ h)

theorem small {a b : Nat} (ha : a < 256) (hb : b < 256) : a * 257 + b < P := by unfold P; omega
theorem sumN_swap {s : Nat} (_hs : s < P) (a b : Bytes) {c d : UInt8} (h : c ≠ d) : sumN s (a ++ c :: d :: b) ≠ sumN s (a ++ d :: c :: b) := by
  rw [sumN_append s a (c :: d :: b), sumN_append s a (d :: c :: b)]
  generalize sumN s a = t
  rw [sumN_cons, sumN_cons, sumN_cons, sumN_cons]
  refine sumN_inj (step_lt _ _) (step_lt _ _) b ?_
  intro e
  have hc := c.toNat_lt
  have hd := d.toNat_lt
  have e2 : (c.toNat * 257 + d.toNat) % P = (d.toNat * 257 + c.toNat) % P := by
    refine mod_cancel (m := t * 257 * 257 + 258) ?_
    rw [← two_steps, ← two_steps]; exact e
  rw [Nat.mod_eq_of_lt (small hc hd), Nat.mod_eq_of_lt (small hd hc)] at e2
  have e3 : c.toNat = d.toNat := by clear e _hs; omega
  exact h (UInt8.toNat_inj.1 e3)

/-- hexadecimal digits -/
def digit (d : Nat) : UInt8 := if d < 10 then (48 + d).toUInt8 else (87 + d).toUInt8
def hexL (n : Nat) : Bytes := [digit (n / 268435456 % 16), digit (n / 16777216 % 16), digit (n / 1048576 % 16), digit (n / 65536 % 16), digit (n / 4096 % 16), digit (n / 256 % 16), digit (n / 16 % 16), digit (n % 16)]
def value (c : UInt8) : Option Nat := if 48 ≤ c.toNat ∧ c.toNat ≤ 57 then some (c.toNat - 48) else if 97 ≤ c.toNat ∧ c.toNat ≤ 102 then some (c.toNat - 87) else none

theorem value_digit : ∀ d, d < 16 → value (digit d) = some d := by decide
theorem value_lt {c : UInt8} {v : Nat} (h : value c = some v) : v < 16 := by
  unfold value at h
  split at h
  · cases h; omega
  · split at h
    · cases h; omega
    · cases h
theorem digit_value {c : UInt8} {v : Nat} (h : value c = some v) : digit v = c := by
  unfold value at h
  unfold digit
  apply UInt8.toNat_inj.1
  split at h
  · cases h; rw [if_pos (by omega)]; simp; omega
  · split at h
    · cases h; rw [if_neg (by omega)]; simp; omega
    · cases h

/-- the number of digits, told from the front -/
def numL : Nat → Bytes → Option Nat
  | n, [] => some n
  | n, c :: l => match value c with
    | some v => numL (n * 16 + v) l
    | none => none

theorem hexL_length (n : Nat) : (hexL n).length = 8 := rfl
theorem numL_hex {n : Nat} (h : n < 4294967296) : numL 0 (hexL n) = some n := by
  have d := fun m => value_digit (m % 16) (Nat.mod_lt _ (by decide))
  unfold hexL
  simp only [numL, d]
  congr 1; omega

theorem numL_lt : ∀ (l : Bytes) (n v : Nat), numL n l = some v → v < (n + 1) * 16 ^ l.length
  | [], n, v, h => by cases h; simp
  | c :: l, n, v, h => by
    unfold numL at h
    cases hv : value c with
    | none => rw [hv] at h; cases h
    | some d =>
      rw [hv] at h
      have h1 := numL_lt l _ _ h
      have h2 := value_lt hv
      have : (n * 16 + d + 1) * 16 ^ l.length ≤ (n + 1) * 16 * 16 ^ l.length := Nat.mul_le_mul_right _ (by omega)
      rw [List.length_cons, Nat.pow_succ, Nat.mul_comm (16 ^ l.length) 16, ← Nat.mul_assoc]
      omega

/-- eight digits are the hexadecimal form of what they tell -/
theorem hex_numL {l : Bytes} {v : Nat} (hl : l.length = 8) (h : numL 0 l = some v) : hexL v = l ∧ v < 4294967296 := by
  have hlt := numL_lt l 0 v h
  rw [hl] at hlt
  match l, hl with
  | [a, b, c, d, e, f, g, i], _ =>
    simp only [numL] at h
    cases ha : value a <;> simp only [ha] at h <;> first | cases h; done | skip
    cases hb : value b <;> simp only [hb] at h <;> first | cases h; done | skip
    cases hc : value c <;> simp only [hc] at h <;> first | cases h; done | skip
    cases hd : value d <;> simp only [hd] at h <;> first | cases h; done | skip
    cases he : value e <;> simp only [he] at h <;> first | cases h; done | skip
    cases hf : value f <;> simp only [hf] at h <;> first | cases h; done | skip
    cases hg : value g <;> simp only [hg] at h <;> first | cases h; done | skip
    cases hi : value i <;> simp only [hi] at h <;> first | cases h; done | skip
    rename_i a' b' c' d' e' f' g' i'
    have la := value_lt ha
    have lb := value_lt hb
    have lc := value_lt hc
    have ld := value_lt hd
    have le := value_lt he
    have lf := value_lt hf
    have lg := value_lt hg
    have li := value_lt hi
    have hv := Option.some.inj h
    refine ⟨?_, by omega⟩
    unfold hexL
    rw [show v / 268435456 % 16 = a' from by omega, show v / 16777216 % 16 = b' from by omega, show v / 1048576 % 16 = c' from by omega, show v / 65536 % 16 = d' from by omega,
      show v / 4096 % 16 = e' from by omega, show v / 256 % 16 = f' from by omega, show v / 16 % 16 = g' from by omega, show v % 16 = i' from by omega]
    rw [digit_value ha, digit_value hb, digit_value hc, digit_value hd, digit_value he, digit_value hf, digit_value hg, digit_value hi]

theorem digit_ne10 : ∀ d, d < 16 → digit d ≠ 10 := by decide
theorem hexL_no10 (n : Nat) : (10 : UInt8) ∉ hexL n := by
  have d := fun m => digit_ne10 (m % 16) (Nat.mod_lt _ (by decide))
  unfold hexL
  simp only [List.mem_cons, List.not_mem_nil, or_false, not_or]
  exact ⟨(d _).symm, (d _).symm, (d _).symm, (d _).symm, (d _).symm, (d _).symm, (d _).symm, (d _).symm⟩

/-- lines sealed, from a number on -/
def sealT : Nat → List Bytes → Bytes
  | _, [] => []
  | s, l :: ls => l ++ 32 :: hexL (sumN s l) ++ 10 :: sealT (sumN s l) ls

/-- a text's lines, and what stands behind the last line feed -/
def cutL : Bytes → List Bytes × Bytes
  | [] => ([], [])
  | c :: t => if c = 10 then ([] :: (cutL t).1, (cutL t).2) else match (cutL t).1 with
    | [] => ([], c :: (cutL t).2)
    | l :: ls => ((c :: l) :: ls, (cutL t).2)

theorem cutL_line (l : Bytes) (t : Bytes) (h : (10 : UInt8) ∉ l) : cutL (l ++ 10 :: t) = (l :: (cutL t).1, (cutL t).2) := by
  induction l with
  | nil => simp [cutL]
  | cons c l ih =>
    have hc : c ≠ 10 := fun e => h (by rw [e]; exact List.mem_cons_self ..)
    have hl : (10 : UInt8) ∉ l := fun e => h (List.mem_cons_of_mem _ e)
    rw [List.cons_append, cutL, if_neg hc, ih hl]

theorem cutL_rest (l : Bytes) (h : (10 : UInt8) ∉ l) : cutL l = ([], l) := by
  induction l with
  | nil => rfl
  | cons c l ih =>
    have hc : c ≠ 10 := fun e => h (by rw [e]; exact List.mem_cons_self ..)
    have hl : (10 : UInt8) ∉ l := fun e => h (List.mem_cons_of_mem _ e)
    rw [cutL, if_neg hc, ih hl]

/-- the text again -/
def joinL : List Bytes → Bytes → Bytes
  | [], r => r
  | l :: ls, r => l ++ 10 :: joinL ls r

theorem cutL_join : ∀ t : Bytes, joinL (cutL t).1 (cutL t).2 = t
  | [] => rfl
  | c :: t => by
    have ih := cutL_join t
    rw [cutL]
    by_cases h : c = 10
    · rw [if_pos h]; show [] ++ 10 :: joinL (cutL t).1 (cutL t).2 = _; rw [ih, h]; rfl
    · rw [if_neg h]
      cases h1 : (cutL t).1 with
      | nil =>
        rw [h1] at ih
        show c :: (cutL t).2 = c :: t
        exact congrArg (c :: ·) ih
      | cons l ls =>
        rw [h1] at ih
        show c :: (l ++ 10 :: joinL ls (cutL t).2) = c :: t
        exact congrArg (c :: ·) ih

theorem cutL_no10 : ∀ t : Bytes, ∀ l ∈ (cutL t).1, (10 : UInt8) ∉ l
  | [], l, h => by cases h
  | c :: t, l, h => by
    have ih := cutL_no10 t
    rw [cutL] at h
    by_cases hc : c = 10
    · rw [if_pos hc] at h
      rcases List.mem_cons.1 h with rfl | h
      · simp
      · exact ih l h
    · rw [if_neg hc] at h
      cases h1 : (cutL t).1 with
      | nil => rw [h1] at h; cases h
      | cons l' ls =>
        rw [h1] at h ih
        rcases List.mem_cons.1 h with rfl | h
        · intro e
          rcases List.mem_cons.1 e with e | e
          · exact hc e.symm
          · exact ih l' (List.mem_cons_self ..) e
        · exact ih l (List.mem_cons_of_mem _ h)

/-- what a line tells: its number, if it has one -/
def told (l : Bytes) : Option Nat := if 9 ≤ l.length ∧ l[l.length - 9]? = some 32 then numL 0 (l.drop (l.length - 8)) else none
def said (l : Bytes) : Bytes := l.take (l.length - 9)

/-- a line's state (0, 90, 230), what it says, the number for the next -/
def lookOne (s : Nat) (l : Bytes) : Bytes × Nat × Nat := match told l with
  | none => ([], 90, 0)
  | some v => (said l, if sumN (s % P) (said l) = v then 0 else 230, v)

def lookL : Nat → List Bytes → List Bytes × List Nat
  | _, [] => ([], [])
  | s, l :: ls => ((lookOne s l).1 :: (lookL (lookOne s l).2.2 ls).1, (lookOne s l).2.1 :: (lookL (lookOne s l).2.2 ls).2)

theorem lookL_length : ∀ (s : Nat) (ls : List Bytes), (lookL s ls).1.length = ls.length ∧ (lookL s ls).2.length = ls.length
  | _, [] => ⟨rfl, rfl⟩
  | s, l :: ls => by
    have := lookL_length (lookOne s l).2.2 ls
    simp [lookL, this]

theorem told_sealed (l : Bytes) (n : Nat) (h : n < 4294967296) : told (l ++ 32 :: hexL n) = some n ∧ said (l ++ 32 :: hexL n) = l := by
  have hlen : (l ++ 32 :: hexL n).length = l.length + 9 := by simp [hexL_length]
  unfold told said
  rw [hlen]
  have h1 : (l ++ 32 :: hexL n)[l.length + 9 - 9]? = some 32 := by simp
  have h2 : (l ++ 32 :: hexL n).drop (l.length + 9 - 8) = hexL n := by
    rw [show l.length + 9 - 8 = l.length + 1 from by omega, List.drop_append]
    simp
  rw [if_pos ⟨by omega, h1⟩, h2, numL_hex h]
  exact ⟨rfl, by simp⟩

/-- the sealed lines one by one -/
def sealLs : Nat → List Bytes → List Bytes
  | _, [] => []
  | s, l :: ls => (l ++ 32 :: hexL (sumN s l)) :: sealLs (sumN s l) ls

theorem sealT_join (s : Nat) (ls : List Bytes) : sealT s ls = joinL (sealLs s ls) [] := by
  induction ls generalizing s with
  | nil => rfl
  | cons l ls ih => simp [sealT, sealLs, joinL, ih]

theorem cutL_joinL : ∀ (ls : List Bytes), (∀ l ∈ ls, (10 : UInt8) ∉ l) → cutL (joinL ls []) = (ls, [])
  | [], _ => rfl
  | l :: ls, h => by
    rw [joinL, cutL_line l _ (h l (List.mem_cons_self ..)), cutL_joinL ls (fun l' hl => h l' (List.mem_cons_of_mem _ hl))]

theorem sealLs_no10 (s : Nat) (ls : List Bytes) (h : ∀ l ∈ ls, (10 : UInt8) ∉ l) : ∀ l ∈ sealLs s ls, (10 : UInt8) ∉ l := by
  induction ls generalizing s with
  | nil => intro l hl; cases hl
  | cons a ls ih =>
    intro l hl
    rcases List.mem_cons.1 hl with rfl | hl
    · intro e
      rcases List.mem_append.1 e with e | e
      · exact h a (List.mem_cons_self ..) e
      · rcases List.mem_cons.1 e with e | e
        · exact absurd e (by decide)
        · exact hexL_no10 _ e
    · exact ih _ (fun l' hl' => h l' (List.mem_cons_of_mem _ hl')) l hl

theorem cut_sealT (s : Nat) (ls : List Bytes) (h : ∀ l ∈ ls, (10 : UInt8) ∉ l) : cutL (sealT s ls) = (sealLs s ls, []) := by
  rw [sealT_join]; exact cutL_joinL _ (sealLs_no10 s ls h)

theorem lookOne_sealed {s : Nat} (hs : s < P) (l : Bytes) : lookOne s (l ++ 32 :: hexL (sumN s l)) = (l, 0, sumN s l) := by
  have hlt := sumN_lt hs l
  obtain ⟨h1, h2⟩ := told_sealed l (sumN s l) (Nat.lt_trans hlt (by decide))
  unfold lookOne
  rw [h1, h2]
  simp [Nat.mod_eq_of_lt hs]

theorem look_sealed {s : Nat} (hs : s < P) (ls : List Bytes) : lookL s (sealLs s ls) = (ls, List.replicate ls.length 0) := by
  induction ls generalizing s with
  | nil => rfl
  | cons l ls ih =>
    rw [sealLs, lookL, lookOne_sealed hs]
    simp [ih (sumN_lt hs l), List.replicate_succ]

/-- lines that look well are sealed lines -/
theorem sealed_of_look {s : Nat} (hs : s < P) (ls : List Bytes) (h : ∀ e ∈ (lookL s ls).2, e = 0) : sealLs s (lookL s ls).1 = ls := by
  induction ls generalizing s with
  | nil => rfl
  | cons l ls ih =>
    rw [lookL] at h ⊢
    have h0 : (lookOne s l).2.1 = 0 := h _ (List.mem_cons_self ..)
    have h1 : ∀ e ∈ (lookL (lookOne s l).2.2 ls).2, e = 0 := fun e he => h e (List.mem_cons_of_mem _ he)
    have key : (lookOne s l).1 ++ 32 :: hexL (sumN s (lookOne s l).1) = l ∧ (lookOne s l).2.2 = sumN s (lookOne s l).1 := by
      unfold lookOne at h0 ⊢
      cases ht : told l with
      | none => rw [ht] at h0; simp at h0
      | some v =>
        rw [ht] at h0
        simp only at h0 ⊢
        rw [Nat.mod_eq_of_lt hs] at h0
        by_cases hv : sumN s (said l) = v
        · rw [hv]
          refine ⟨?_, rfl⟩
          unfold told at ht
          by_cases hc : 9 ≤ l.length ∧ l[l.length - 9]? = some 32
          · rw [if_pos hc] at ht
            have := (hex_numL (by rw [List.length_drop]; omega) ht).1
            rw [this]
            unfold said
            obtain ⟨hlt, hget⟩ := List.getElem?_eq_some_iff.1 hc.2
            have e1 : l.drop (l.length - 9) = 32 :: l.drop (l.length - 8) := by
              rw [List.drop_eq_getElem_cons hlt, hget, show l.length - 9 + 1 = l.length - 8 from by omega]
            rw [← e1, List.take_append_drop]
          · rw [if_neg hc] at ht; cases ht
        · rw [if_neg hv] at h0; exact absurd h0 (by decide)
    rw [sealLs]
    rw [key.2] at h1
    rw [key.1, key.2, ih (sumN_lt hs _) h1]
end SealLaw
