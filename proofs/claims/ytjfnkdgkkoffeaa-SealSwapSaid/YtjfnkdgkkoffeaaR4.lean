/- Walk: eight digits. Conditions: none. -/
import Derived.Test.YtjfnkdgkkoffeaaR3
import Derived.Laws.IdiomStrings
import Derived.Laws.MakeOwn
namespace Go.Proofs.Ytjfnkdgkkoffeaa
open Go.RowKit SealLaw

theorem Try.info5 : (Try.prog.info? 5).map (fun i => (i.zero, i.size, i.bytes)) = some (some (.int .u8 0), 1, 1) := by kernel_rfl
def byts (l : Bytes) : List Value := l.map fun b => .int .u8 b.toNat
/-- j digits are written, from the end -/
def hexK (n j : Nat) : Bytes := List.replicate (8 - j) 0 ++ (hexL n).drop (8 - j)
theorem hexK_step (n j : Nat) (h : j < 8) : (hexK n j).set (7 - j) (digit (n / 16 ^ j % 16)) = hexK n (j + 1) := by
  rcases (show j = 0 ∨ j = 1 ∨ j = 2 ∨ j = 3 ∨ j = 4 ∨ j = 5 ∨ j = 6 ∨ j = 7 from by omega) with rfl | rfl | rfl | rfl | rfl | rfl | rfl | rfl <;> simp [hexK, hexL, List.replicate]
theorem hexK_end (n : Nat) : hexK n 8 = hexL n := by simp [hexK]
theorem hexK_length (n j : Nat) (h : j ≤ 8) : (hexK n j).length = 8 := by
  unfold hexK
  rw [List.length_append, List.length_replicate, List.length_drop, hexL_length]; omega
theorem made8 : (madeCells #[Value.int .u8 0] 8).toList = List.replicate 8 (Value.int .u8 0) := by simp [madeCells, Nat.mod_one]; rfl
theorem and15 (n : Nat) : bits .and .u32 (n : Int) 15 = ((n % 16 : Nat) : Int) := by
  have ofInt : ∀ k n : Nat, BitVec.ofInt k (n : Int) = BitVec.ofNat k n := fun k n => by apply BitVec.eq_of_toNat_eq; simp
  unfold bits
  simp only []
  rw [show IntKind.u32.bits = 32 from rfl, show BitVec.ofInt 32 15 = BitVec.ofNat 32 15 from by decide, ofInt, BitVec.toNat_and, BitVec.toNat_ofNat, BitVec.toNat_ofNat]
  rw [show 15 % 2 ^ 32 = 2 ^ 4 - 1 from by decide, Nat.and_two_pow_sub_one_eq_mod, wrap32u _ (by omega)]
  congr 1; omega
def digs : ByteArray := ⟨#[48, 49, 50, 51, 52, 53, 54, 55, 56, 57, 97, 98, 99, 100, 101, 102]⟩
theorem digs_at : ∀ d, d < 16 → ∀ h : d < digs.size, (digs[d]'h).toNat = (digit d).toNat := by decide

set_option maxHeartbeats 4000000 in
theorem hex_any (n : Nat) (hn : n < 4294967296) (w : World) :
    Calls Try.prog 16 #[.int .u32 n] w fun e w' => e = .returned (.string ⟨(hexL n).toArray⟩) ∧ Below w.heap.size w w' := by
  obtain ⟨i0, hi, hz0, hz1, hz2⟩ := info_parts Try.info5
  have hmk : ∀ u : World, (Instr.makeSlice 38 (.int .i64 8) (.int .i64 8)).run Try.prog u = .ok (.slice (some ⟨u.heap.size, 0, none⟩) 8 8) (u.alloc (.cells (madeCells #[.int .u8 0] 8) 5)) := fun u => by
    have h := run_make (P := Try.prog) u 38 5 i0 (.int .u8 0) Try.underlying38 hi hz0 .i64 .i64 8 8 (by omega) (Int.le_refl _) (by rw [hz2]; omega) (by omega)
    simpa [hz1, Value.cells] using h
  have hr0 : (w.alloc (.cells (madeCells #[.int .u8 0] 8) 5)).ownsRow w.heap.size 5 1 (.slice (some ⟨w.heap.size, 0, none⟩) 8 8) 8 (byts (hexK n 0)) :=
    ⟨rfl, Or.inr ⟨w.heap.size, 8, madeCells #[.int .u8 0] 8, rfl, Nat.le_refl _, heap_alloc_new w _, Nat.le_refl _, by unfold maxLen; omega, by rw [size_madeCells], by rw [made8]; rfl⟩⟩
  have HR0 := Lib.hid hr0
  clear hr0
  go_enter Try.func16, Try.ntmps16
  go_wp2
  go_loopw [0, 4] (fun vn vi wr => ∃ c m : Nat, c ≤ 8 ∧ vi = .int .i64 ((c : Int) - 1) ∧ vn = .int .u32 (m : Int) ∧ m = n / 16 ^ (8 - c) ∧ wr.ownsRow w.heap.size 5 1 (.slice (some ⟨w.heap.size, 0, none⟩) 8 8) 8 (byts (hexK n (8 - c))) ∧ Below w.heap.size w wr) (fun _ vi _ => (intOf vi + 1).toNat)
  case atStart => exact ⟨8, n, by omega, rfl, rfl, by simp, HR0.out, (Below.refl _ _).alloc (Nat.le_refl _) _⟩
  case round =>
    obtain ⟨c, m, hc, rfl, rfl, hmn, hown, hbel⟩ := hrel
    have HR1 := Lib.hid hown
    have HB1 := Lib.hid hbel
    have HMN := Lib.hid hmn
    have hml : m < 4294967296 := by rw [hmn]; exact Nat.lt_of_le_of_lt (Nat.div_le_self _ _) hn
    clear hown hbel hmn
    cases c with
    | zero =>
      have hrow := HR1.out
      rw [show 8 - 0 = 8 from rfl, hexK_end] at hrow
      have hconv := run_convert_bytes_back wr 38 9 5 ⟨w.heap.size, 0, none⟩ 8 (hexL n) Try.underlying38 Try.underlying5 Try.underlying9 (by
        intro j hj
        rw [hexL_length] at hj
        have := hrow.cellAt j (by omega)
        unfold Addr.add
        have e : (if j = 0 then (⟨w.heap.size, 0, none⟩ : Addr) else { (⟨w.heap.size, 0, none⟩ : Addr) with off := 0 + j, spot := none }) = ⟨w.heap.size, j, none⟩ := by
          by_cases h : j = 0
          · subst h; rfl
          · rw [if_neg h, Nat.zero_add]
        show wr.cell? (if j = 0 then _ else _) = _
        rw [e, this]
        simp [byts, List.getElem?_eq_getElem (show j < (hexL n).length from by rw [hexL_length]; omega)])
      rw [hexL_length] at hconv
      clear hrow
      go_wp2
      go_ret
      exact ⟨rfl, HB1.out⟩
    | succ d =>
      have hand := and15 m
      have hr16 : m % 16 < 16 := Nat.mod_lt _ (by omega)
      have hset := hexK_step n (8 - (d + 1)) (by omega)
      rw [← HMN.out] at hset
      have hcell := HR1.out.cellAt d (by omega)
      have hcl : (byts (hexK n (8 - (d + 1)))).length = 8 := by unfold byts; rw [List.length_map, hexK_length _ _ (by omega)]
      rw [List.getElem?_eq_getElem (by omega)] at hcell
      obtain ⟨u, hu⟩ : ∃ u, (byts (hexK n (8 - (d + 1))))[d]'(by omega) = u := ⟨_, rfl⟩
      rw [hu] at hcell
      have hfrz := HR1.out.frozenAt d
      obtain ⟨r, hr⟩ : ∃ r, m % 16 = r := ⟨_, rfl⟩
      rw [hr] at hand hr16 hset
      have hdig : ∀ h : r < 16, (((⟨#[48, 49, 50, 51, 52, 53, 54, 55, 56, 57, 97, 98, 99, 100, 101, 102]⟩ : ByteArray)[r]'h).toNat : Int) = ((digit r).toNat : Int) := fun h => congrArg Int.ofNat (digs_at r hr16 h)
      have hst := HR1.out.stored d (.int .u8 (digit r).toNat)
      have hbs : (byts (hexK n (8 - (d + 1)))).set d (.int .u8 (digit r).toNat) = byts (hexK n (8 - d)) := by
        rw [show 8 - d = 8 - (d + 1) + 1 from by omega, ← hset, show 7 - (8 - (d + 1)) = d from by omega]
        unfold byts; rw [List.map_set]
      rw [hbs] at hst
      have HS1 := Lib.hid hst.1
      have HS2 := Lib.hid (HB1.out.grown hst.2 HB1.out.size (fun k hk => by cases hk; exact Nat.le_refl _))
      have hdiv : m / 16 = n / 16 ^ (8 - d) := by
        rw [HMN.out, Nat.div_div_eq_div_mul, show 8 - d = 8 - (d + 1) + 1 from by omega, Nat.pow_succ]
      have HD := Lib.hid hdiv
      clear hst hbs hset hcl hu hr hdiv
      go_wp2
      go_roundw
      case rel => exact ⟨d, m / 16, by omega, rfl, rfl, HD.out, HS1.out, HS2.out⟩
      case measure => first | (simp [intOf]; done) | (simp [intOf]; omega)
end Go.Proofs.Ytjfnkdgkkoffeaa
