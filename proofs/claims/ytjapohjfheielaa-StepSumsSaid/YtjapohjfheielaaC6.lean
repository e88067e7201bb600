/- Walks: masses held against each other, few. Conditions: the masses lie in memory. -/
import Derived.Test.YtjapohjfheielaaC5
import Derived.Laws.StructEq
namespace Go.Proofs.Ytjapohjfheielaa
open Go.RowKit

theorem run_size2 (w : World) : (sizeOf 2).run Try.prog w = .ok 1 w := by kernel_rfl
theorem run_part2 (w : World) (xs : Array Value) (i : Nat) (v : Value) (h : xs[i]? = some v) : (Go.part 2 xs i).run Try.prog w = .ok v w := by
  unfold Go.part
  simp [h]
theorem run_eq3 (d : Nat) (a b c a' b' c' : Int) (w : World) : (Op.equalIn (d + 1 + 1) 26 (.agg #[.int .i64 a, .int .i64 b, .int .i64 c]) (.agg #[.int .i64 a', .int .i64 b', .int .i64 c'])).run Try.prog w = .ok (a == a' && (b == b' && c == c')) w := by
  rw [Op.equalIn]
  simp only [Sem.run_bind, run_underlying Try.underlying26, Result.andThen_ok, run_size2, Std.Legacy.Range.forIn_eq_forIn_range']
  have hl : List.range' 0 ([:3] : Std.Legacy.Range).size = [0, 1, 2] := rfl
  have p0 := run_part2 w #[Value.int IntKind.i64 a, Value.int IntKind.i64 b, Value.int IntKind.i64 c] 0 _ rfl
  have p1 := run_part2 w #[Value.int IntKind.i64 a, Value.int IntKind.i64 b, Value.int IntKind.i64 c] 1 _ rfl
  have p2 := run_part2 w #[Value.int IntKind.i64 a, Value.int IntKind.i64 b, Value.int IntKind.i64 c] 2 _ rfl
  have q0 := run_part2 w #[Value.int IntKind.i64 a', Value.int IntKind.i64 b', Value.int IntKind.i64 c'] 0 _ rfl
  have q1 := run_part2 w #[Value.int IntKind.i64 a', Value.int IntKind.i64 b', Value.int IntKind.i64 c'] 1 _ rfl
  have q2 := run_part2 w #[Value.int IntKind.i64 a', Value.int IntKind.i64 b', Value.int IntKind.i64 c'] 2 _ rfl
  have e0 := run_equalIn_int (P := Try.prog) w d 2 .i64 .i64 a a' (by kernel_rfl)
  have e1 := run_equalIn_int (P := Try.prog) w d 2 .i64 .i64 b b' (by kernel_rfl)
  have e2 := run_equalIn_int (P := Try.prog) w d 2 .i64 .i64 c c' (by kernel_rfl)
  rw [hl]
  simp only [List.forIn_cons, List.forIn_nil, Sem.run_bind, Nat.mul_one, p0, q0, Result.andThen_ok]
  cases h0 : (a == a') <;> cases h1 : (b == b') <;> cases h2 : (c == c') <;> simp [e0, e1, e2, h0, h1, h2, p1, p2, q1, q2]
theorem run_eq3_same (a b c : Int) (u : World) : (Op.equalIn 9999 26 (.agg #[.int .i64 a, .int .i64 b, .int .i64 c]) (.agg #[.int .i64 a, .int .i64 b, .int .i64 c])).run Try.prog u = .ok true u := by
  have := run_eq3 9997 a b c a b c u
  simpa using this

/-- seven cells of a list of masses, one by one -/
theorem Lies.seven {w : World} {g o n : Nat} {S : Nat → Int} (h : Lies w g o n S) {i : Nat} (hi : i < n) :
    w.cell? ⟨g, o + i * 7, none⟩ = some (.int .i64 (S (i * 7))) ∧ w.cell? ⟨g, o + i * 7 + 1, none⟩ = some (.int .i64 (S (i * 7 + 1))) ∧ w.cell? ⟨g, o + i * 7 + 2, none⟩ = some (.int .i64 (S (i * 7 + 2))) ∧ w.cell? ⟨g, o + i * 7 + 3, none⟩ = some (.int .i64 (S (i * 7 + 3))) ∧
    w.cell? ⟨g, o + i * 7 + 4, none⟩ = some (.int .i64 (S (i * 7 + 4))) ∧ w.cell? ⟨g, o + i * 7 + 5, none⟩ = some (.int .i64 (S (i * 7 + 5))) ∧ w.cell? ⟨g, o + i * 7 + 6, none⟩ = some (.int .i64 (S (i * 7 + 6))) :=
  ⟨h (i * 7) (by omega), h (i * 7 + 1) (by omega), h (i * 7 + 2) (by omega), h (i * 7 + 3) (by omega), h (i * 7 + 4) (by omega), h (i * 7 + 5) (by omega), h (i * 7 + 6) (by omega)⟩

set_option maxHeartbeats 1000000 in
theorem same_any (v1 v2 : Value) (n : Nat) (S T : Nat → Int) (w : World) (h1 : MIn w v1 n S) (h2 : MIn w v2 n T) (heq : ∀ j, j < n * 7 → S j = T j) (hn : n ≤ 1099511627776 * 1024) :
    Calls Try.prog 23 #[v1, v2] w fun e w' => e = .returned (.bool true) ∧ Drawn w w' := by
  have H1 := Lib.hid (h1.congr (fun j hj => (heq j hj).symm))
  have H2 := Lib.hid h2
  obtain ⟨A1, c1, rfl⟩ := h1.form
  obtain ⟨A2, c2, rfl⟩ := h2.form
  have hf := run_eq3_same
  clear h1 h2 heq
  go_enter Try.func23, Try.ntmps23
  go_wp2
  go_loopw [5] (fun vi wr => ∃ i : Nat, i ≤ n ∧ vi = .int .i64 i ∧ Drawn w wr) (fun vi _ => n - (intOf vi).toNat)
  case atStart => exact ⟨0, Nat.zero_le _, rfl, Drawn.refl _⟩
  case round =>
    obtain ⟨i, hi, rfl, ⟨md, rfl⟩⟩ := hrel
    by_cases hin : i < n
    · obtain ⟨g1, o1, rfl, l1⟩ := H1.out.cell hin
      obtain ⟨g2, o2, rfl, l2⟩ := H2.out.cell hin
      obtain ⟨a0, a1, a2, a3, a4, a5, a6⟩ := l1.seven hin
      obtain ⟨b0, b1, b2, b3, b4, b5, b6⟩ := l2.seven hin
      clear l1 l2
      generalize T (i * 7) = m at *
      generalize T (i * 7 + 1) = x0 at *
      generalize T (i * 7 + 2) = x1 at *
      generalize T (i * 7 + 3) = x2 at *
      generalize T (i * 7 + 4) = p0 at *
      generalize T (i * 7 + 5) = p1 at *
      generalize T (i * 7 + 6) = p2 at *
      have f1 := fun u => hf x0 x1 x2 u
      have f2 := fun u => hf p0 p1 p2 u
      go_wp2_with fail
      go_quiet (fail)
      go_wp2
      go_roundw
      case rel => exact ⟨i + 1, by omega, by go_num, ⟨_, rfl⟩⟩
      case measure => first | (simp [intOf]; done) | (simp [intOf]; omega)
    · go_wp2
      go_ret
      exact ⟨rfl, ⟨_, rfl⟩⟩

def fewN (n : Int) : Int := if n < 0 then -(-(n + 1) % 64) - 1 else n % 64
theorem few_any (n : Int) (w : World) (hn : -9223372036854775808 ≤ n ∧ n ≤ 9223372036854775807) : Calls Try.prog 20 #[.int .i64 n] w fun e w' => e = .returned (.int .i64 (fewN n)) ∧ w = w' := by
  obtain ⟨h1, h2⟩ := hn
  by_cases h : n < 0
  · have e : fewN n = -(-(n + 1) % 64) - 1 := by unfold fewN; rw [if_pos h]
    rw [e]
    obtain ⟨k, hk⟩ : ∃ k : Nat, -(n + 1) = (k : Int) := ⟨(-(n + 1)).toNat, by omega⟩
    have hkb : (k : Int) ≤ 9223372036854775807 := by omega
    rw [hk]
    have hm1 : 0 ≤ (k : Int) % 64 := by omega
    have hm2 : (k : Int) % 64 < 64 := by omega
    go_enter Try.func20, Try.ntmps20
    go_wp2
    go_ret
    exact ⟨rfl, rfl⟩
  · have e : fewN n = n % 64 := by unfold fewN; rw [if_neg h]
    rw [e]
    go_enter Try.func20, Try.ntmps20
    go_wp2
    go_ret
    exact ⟨rfl, rfl⟩
theorem fewN_le (n : Int) : -64 ≤ fewN n ∧ fewN n ≤ 63 := by unfold fewN; split <;> omega
end Go.Proofs.Ytjapohjfheielaa
