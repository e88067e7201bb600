/- SealLooks: the walk. Conditions: none. -/
import Derived.Test.YtjfnkdgkkoffeaaR8
namespace Go.Proofs.Ytjfnkdgkkoffeaa
open Go.RowKit SealLaw

theorem read_short (t : Bytes) : (readR t).1.length ≤ 1024 := by
  unfold readR
  by_cases h : lookErr t = 0
  · rw [if_pos h]
    have hl : (lookR t).1.length ≤ 1024 := by
      unfold lookR
      rw [if_pos h, (lookL_length _ _).1]
      unfold lookErr at h
      split at h
      · omega
      · split at h <;> omega
    cases firstBad (lookR t).2 0 with
    | none => exact hl
    | some p => simp [readOf]
  · rw [if_neg h]; simp

theorem two_new (w : World) (x y : Value) (t : TypeId) : ∀ j u, [x, y][j]? = some u → (w.alloc (.cells #[x, y] t)).cell? ((⟨w.heap.size, 0, none⟩ : Addr).add j) = some u := by
  intro j u hj
  have h := heap_alloc_new w (.cells #[x, y] t)
  match j, hj with
  | 0, hj =>
    simp at hj; subst hj
    show World.cell? _ ⟨w.heap.size, 0, none⟩ = _
    rw [cell_of_row _ _ _ _ _ (0, 0) h]; rfl
  | 1, hj =>
    simp at hj; subst hj
    show World.cell? _ ⟨w.heap.size, 0 + 1, none⟩ = _
    rw [cell_of_row _ _ _ _ _ (0, 0) h]; rfl

set_option maxHeartbeats 2000000 in
theorem looks_walk (s : ByteArray) (w : World) : Calls Try.prog 4 #[.string s] w fun e w' => e = .returned (.bool true) ∧ Below w.heap.size w w' := by
  obtain ⟨i0, hi, hz0, hz1, hz2⟩ := info_parts Try.info9
  have hl1 := look_full s
  have hl2 := refLook_full s
  have hr1 := read_any s
  have hr2 := refRead_any s
  have hsh := read_short s.data.toList
  obtain ⟨X, hX⟩ : ∃ X, (lookR s.data.toList).1 = X := ⟨_, rfl⟩
  obtain ⟨Y, hY⟩ : ∃ Y, (lookR s.data.toList).2 = Y := ⟨_, rfl⟩
  obtain ⟨E, hE⟩ : ∃ E, lookErr s.data.toList = E := ⟨_, rfl⟩
  obtain ⟨L, hL⟩ : ∃ L, (readR s.data.toList).1 = L := ⟨_, rfl⟩
  obtain ⟨n, hn⟩ : ∃ n, (readR s.data.toList).2.1 = n := ⟨_, rfl⟩
  obtain ⟨q, hq⟩ : ∃ q, (readR s.data.toList).2.2 = q := ⟨_, rfl⟩
  rw [hX, hY, hE] at hl1 hl2
  rw [hL, hn, hq] at hr1 hr2
  rw [hL] at hsh
  clear hX hY hE hL hn hq
  go_enter Try.func4, Try.ntmps4
  go_wp2_with fail
  refine (awake_any _).mono ?_
  rintro e w1 ⟨rfl, hb⟩
  have B1 := Lib.hid hb
  clear hb
  go_wp2_with fail
  refine (hl1 _).mono ?_
  rintro e w2 ⟨v1, v2, rfl, hx, hy, hb⟩
  have X1 := Lib.hid hx
  have Y1 := Lib.hid hy
  have B2 := Lib.hid (B1.out.trans (hb.mono B1.out.size))
  clear hx hy hb
  go_wp2_with fail
  refine (hl2 _).mono ?_
  rintro e w3 ⟨v3, v4, rfl, hx, hy, hb⟩
  have X3 := Lib.hid hx
  have Y3 := Lib.hid hy
  have X1' := Lib.hid (own_stays2 X1.out hb (fun k hk => (X1.out.lt k hk).2))
  have Y1' := Lib.hid (own_stays2 Y1.out hb (fun k hk => (Y1.out.lt k hk).2))
  have B3 := Lib.hid (B2.out.trans (hb.mono B2.out.size))
  clear hx hy hb hl1 hl2
  have hsame := same_any v1 v3 X X w3 (sin_own X1'.out) (sin_own X3.out) (own_len X1'.out) (own_len X3.out)
  rw [decide_eq_true rfl] at hsame
  have herr := fun m => errors_any v2 v4 Y Y (w3.drewN m) (ein_own (own_drew Y1'.out m)) (ein_own (own_drew Y3.out m)) (own_len Y1'.out) (own_len Y3.out)
  rw [decide_eq_true rfl] at herr
  go_wp2_with fail
  refine hsame.mono ?_
  rintro e w4 ⟨rfl, m1, rfl⟩
  go_wp2_with fail
  refine (herr _).mono ?_
  rintro e w4 ⟨rfl, m2, rfl⟩
  have B4 := Lib.hid (below_drw B3.out (m1 + m2))
  clear hsame herr
  go_wp2_with fail
  refine (hr1 _).mono ?_
  rintro e w5 ⟨v5, rfl, hx, hb⟩
  have X5 := Lib.hid hx
  have B5 := Lib.hid (B4.out.trans (hb.mono B4.out.size))
  clear hx hb
  go_wp2_with fail
  refine (hr2 _).mono ?_
  rintro e w6 ⟨v6, rfl, hx, hb⟩
  have X6 := Lib.hid hx
  have X5' := Lib.hid (own_stays2 X5.out hb (fun k hk => (X5.out.lt k hk).2))
  have B6 := Lib.hid (B5.out.trans (hb.mono B5.out.size))
  clear hx hb hr1 hr2
  have hsame := same_any v5 v6 L L w6 (sin_own X5'.out) (sin_own X6.out) (own_len X5'.out) (own_len X6.out)
  rw [decide_eq_true rfl] at hsame
  have hB5 := Lib.hid B4.out.size
  obtain ⟨A6, c6, rfl⟩ := own_form X6.out
  go_wp2_with fail
  refine hsame.mono ?_
  rintro e w7 ⟨rfl, m3, rfl⟩
  clear hsame
  have R0 := Lib.hid (own_low (own_drew X5'.out m3) hB5.out)
  have B7 := Lib.hid (below_drw B6.out m3)
  obtain ⟨A5, c5, rfl⟩ := own_form X5.out
  go_wp2_with fail
  go_loopw [13] (fun vi wr => ∃ (k : Nat) (xs : List Value), k ≤ L.length ∧ vi = .int .i64 k ∧ wr.ownsRow w.heap.size 9 1 (.slice A5 L.length c5) L.length xs ∧ Below w.heap.size w wr) (fun vi _ => L.length - (intOf vi).toNat)
  case atStart => exact ⟨0, _, Nat.zero_le _, rfl, R0.out, B7.out⟩
  case round =>
    obtain ⟨k, xs, hk, rfl, hown, hbel⟩ := hrel
    have HO := Lib.hid hown
    have HB := Lib.hid hbel
    have hsz := hbel.size
    clear hown hbel
    by_cases h : k < L.length
    · obtain ⟨g, rfl⟩ : ∃ g, A5 = some ⟨g, 0, none⟩ := by
        rcases HO.out.2 with ⟨_, h0⟩ | ⟨g, cap, cur, hv, _⟩
        · omega
        · cases hv; exact ⟨g, rfl⟩
      have hcell := HO.out.cellAt k (by omega)
      have hxl : xs.length = L.length := by have := HO.out.1; omega
      rw [List.getElem?_eq_getElem (by omega)] at hcell
      obtain ⟨u, hu⟩ : ∃ u, xs[k]'(by omega) = u := ⟨_, rfl⟩
      rw [hu] at hcell
      have hfrz := HO.out.frozenAt k
      obtain ⟨s1, g1⟩ := HO.out.stored k (.string ⟨#[111, 116, 104, 101, 114]⟩)
      have S1 := Lib.hid s1
      have G1 := Lib.hid (HB.out.grown g1 HB.out.size (fun k hk => by cases hk; exact (HO.out.lt g rfl).1))
      clear s1 g1 hu hxl
      go_wp2
      go_roundw
      case rel => exact ⟨k + 1, _, by omega, by go_num, S1.out, G1.out⟩
      case measure => first | (simp [intOf]; done) | (simp [intOf]; omega)
    · have hkl : k = L.length := by omega
      subst hkl
      have HX := Lib.hid (HO.out.alloc (.cells #[.string ⟨#[109, 111, 114, 101]⟩, .string ⟨#[109, 111, 114, 101]⟩] 9))
      have HP := Lib.hid (HB.out.alloc hsz (.cells #[.string ⟨#[109, 111, 114, 101]⟩, .string ⟨#[109, 111, 114, 101]⟩] 9))
      go_wp2_with (first | (at_builtin; refine wpList_append_own_at _ rfl _ _ 22 rfl w.heap.size 9 i0 (.string .empty) 1 16 Try.underlying22 hi hz0 hz1 hz2 rfl (by decide) _ _ _ rfl HX.out ⟨wr.heap.size, 0, none⟩ 2 2 [.string ⟨#[109, 111, 114, 101]⟩, .string ⟨#[109, 111, 114, 101]⟩] rfl rfl ?c1 ?c2 ?c3 ?c4 ?c5 ?_))
      try case c1 => exact two_new _ _ _ _
      case c2 => simp [Value.oneCell']
      case c3 => unfold maxLen; omega
      case c4 => omega
      case c5 => first | (simp; omega) | omega
      intro vb wb hownb hgrb _ hatb
      have HQ := Lib.hid (HP.out.grown hgrb (by simp; omega) (fun k hk => (HX.out.lt k hk).1))
      obtain ⟨Ab, cb, rfl⟩ := own_form hownb
      clear hownb hgrb hatb
      go_wp2
      go_ret
      exact ⟨rfl, HQ.out⟩
end Go.Proofs.Ytjfnkdgkkoffeaa
