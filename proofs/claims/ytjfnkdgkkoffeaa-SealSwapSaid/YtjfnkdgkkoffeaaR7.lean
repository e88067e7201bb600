/- Walks: Look whole, Read. Conditions: none. -/
import Derived.Test.YtjfnkdgkkoffeaaR6
import Derived.OwnWalk
namespace Go.Proofs.Ytjfnkdgkkoffeaa
open Go.RowKit SealLaw

def lookErr (t : Bytes) : Nat := if 65536 < t.length then 2 else if 1024 < (cutL t).1.length then 2 else if (cutL t).2 ≠ [] then 90 else 0
def lookR (t : Bytes) : List Bytes × List Nat := if lookErr t = 0 then lookL 0 (cutL t).1 else ([], [])
def firstBad : List Nat → Nat → Option (Nat × Nat)
  | [], _ => none
  | y :: ys, i => if y = 0 then firstBad ys (i + 1) else some (i, y)
def readOf (X : List Bytes) : Option (Nat × Nat) → List Bytes × Nat × Nat
  | none => (X, 0, 0)
  | some p => ([], p.1 + 1, p.2)
def readR (t : Bytes) : List Bytes × Nat × Nat := if lookErr t = 0 then readOf (lookR t).1 (firstBad (lookR t).2 0) else ([], 0, lookErr t)
theorem own_len {w : World} {base n : Nat} {e : TypeId} {v : Value} {xs : List Value} (h : w.ownsRow base e 1 v n xs) : n ≤ 9223372036854775807 := by
  rcases h.2 with ⟨_, h0⟩ | ⟨g, cap, cur, _, _, _, h3, h4, _⟩
  · omega
  · unfold maxLen at h4; omega

set_option maxHeartbeats 1000000 in
theorem look_full (s : ByteArray) (w : World) :
    Calls Try.prog 9 #[.string s] w fun e w' => ∃ v1 v2, e = .returned (.tuple #[v1, v2, .int .i64 (lookErr s.data.toList : Nat)]) ∧ w'.ownsRow w.heap.size 9 1 v1 (lookR s.data.toList).1.length (strs (lookR s.data.toList).1) ∧ w'.ownsRow w.heap.size 25 1 v2 (lookR s.data.toList).2.length (errs (lookR s.data.toList).2) ∧ Below w.heap.size w w' := by
  by_cases h1 : s.size ≤ 65536
  · by_cases h2 : (cutL s.data.toList).1.length ≤ 1024
    · by_cases h3 : (cutL s.data.toList).2 = []
      · have he : lookErr s.data.toList = 0 := by unfold lookErr; rw [if_neg (by simp; omega), if_neg (by omega), if_neg (by simp [h3])]
        have hr : lookR s.data.toList = lookL 0 (cutL s.data.toList).1 := by unfold lookR; rw [if_pos he]
        rw [he, hr]
        exact look_any_loop s w h1 h2 h3
      · have he : lookErr s.data.toList = 90 := by unfold lookErr; rw [if_neg (by simp; omega), if_neg (by omega), if_pos h3]
        have hr : lookR s.data.toList = ([], []) := by unfold lookR; rw [if_neg (by omega)]
        have hcut := cut_any s h1 w
        rw [decide_eq_false h3] at hcut
        obtain ⟨lines, hlines⟩ : ∃ x, (cutL s.data.toList).1 = x := ⟨_, rfl⟩
        rw [hlines] at hcut h2
        rw [he, hr]
        clear he hr h3 hlines
        go_enter Try.func9, Try.ntmps9
        go_wp2_with fail
        refine hcut.mono ?_
        rintro e w1 ⟨vl, rfl, hown, hbel⟩
        have HB0 := Lib.hid hbel
        obtain ⟨A, ca, rfl⟩ := own_form hown
        clear hown hbel hcut
        go_wp2_with fail
        go_ret3
        exact ⟨_, _, rfl, World.ownsRow_nil _ _ _ _, World.ownsRow_nil _ _ _ _, HB0.out⟩
    · have he : lookErr s.data.toList = 2 := by unfold lookErr; rw [if_neg (by simp; omega), if_pos (by omega)]
      have hr : lookR s.data.toList = ([], []) := by unfold lookR; rw [if_neg (by omega)]
      have hcut := cut_any s h1 w
      obtain ⟨lines, hlines⟩ : ∃ x, (cutL s.data.toList).1 = x := ⟨_, rfl⟩
      rw [hlines] at hcut h2
      have h2' : decide ((1024 : Int) < (lines.length : Int)) = true := by rw [decide_eq_true_eq]; omega
      rw [he, hr]
      clear he hr hlines h2
      go_enter Try.func9, Try.ntmps9
      go_wp2_with fail
      refine hcut.mono ?_
      rintro e w1 ⟨vl, rfl, hown, hbel⟩
      have HB0 := Lib.hid hbel
      obtain ⟨A, ca, rfl⟩ := own_form hown
      clear hown hbel hcut
      go_wp2_with fail
      go_ret3
      exact ⟨_, _, rfl, World.ownsRow_nil _ _ _ _, World.ownsRow_nil _ _ _ _, HB0.out⟩
  · have he : lookErr s.data.toList = 2 := by unfold lookErr; rw [if_pos (by simp; omega)]
    have hr : lookR s.data.toList = ([], []) := by unfold lookR; rw [if_neg (by omega)]
    have h1' : decide ((65536 : Int) < (s.size : Int)) = true := by rw [decide_eq_true_eq]; omega
    rw [he, hr]
    clear he hr h1
    go_enter Try.func9, Try.ntmps9
    go_wp2
    go_ret3
    exact ⟨_, _, rfl, World.ownsRow_nil _ _ _ _, World.ownsRow_nil _ _ _ _, Below.refl _ _⟩

set_option maxHeartbeats 1000000 in
theorem refLook_full (s : ByteArray) (w : World) :
    Calls Try.prog 10 #[.string s] w fun e w' => ∃ v1 v2, e = .returned (.tuple #[v1, v2, .int .i64 (lookErr s.data.toList : Nat)]) ∧ w'.ownsRow w.heap.size 9 1 v1 (lookR s.data.toList).1.length (strs (lookR s.data.toList).1) ∧ w'.ownsRow w.heap.size 25 1 v2 (lookR s.data.toList).2.length (errs (lookR s.data.toList).2) ∧ Below w.heap.size w w' := by
  by_cases h1 : s.size ≤ 65536
  · by_cases h2 : (cutL s.data.toList).1.length ≤ 1024
    · by_cases h3 : (cutL s.data.toList).2 = []
      · have he : lookErr s.data.toList = 0 := by unfold lookErr; rw [if_neg (by simp; omega), if_neg (by omega), if_neg (by simp [h3])]
        have hr : lookR s.data.toList = lookL 0 (cutL s.data.toList).1 := by unfold lookR; rw [if_pos he]
        rw [he, hr]
        exact refLook_any_loop s w h1 h2 h3
      · have he : lookErr s.data.toList = 90 := by unfold lookErr; rw [if_neg (by simp; omega), if_neg (by omega), if_pos h3]
        have hr : lookR s.data.toList = ([], []) := by unfold lookR; rw [if_neg (by omega)]
        have hcut := refCut_any s h1 w
        rw [decide_eq_false h3] at hcut
        obtain ⟨lines, hlines⟩ : ∃ x, (cutL s.data.toList).1 = x := ⟨_, rfl⟩
        rw [hlines] at hcut h2
        rw [he, hr]
        clear he hr h3 hlines
        go_enter Try.func10, Try.ntmps10
        go_wp2_with fail
        refine hcut.mono ?_
        rintro e w1 ⟨vl, rfl, hown, hbel⟩
        have HB0 := Lib.hid hbel
        obtain ⟨A, ca, rfl⟩ := own_form hown
        clear hown hbel hcut
        go_wp2_with fail
        go_ret3
        exact ⟨_, _, rfl, World.ownsRow_nil _ _ _ _, World.ownsRow_nil _ _ _ _, HB0.out⟩
    · have he : lookErr s.data.toList = 2 := by unfold lookErr; rw [if_neg (by simp; omega), if_pos (by omega)]
      have hr : lookR s.data.toList = ([], []) := by unfold lookR; rw [if_neg (by omega)]
      have hcut := refCut_any s h1 w
      obtain ⟨lines, hlines⟩ : ∃ x, (cutL s.data.toList).1 = x := ⟨_, rfl⟩
      rw [hlines] at hcut h2
      have h2' : decide ((1024 : Int) < (lines.length : Int)) = true := by rw [decide_eq_true_eq]; omega
      rw [he, hr]
      clear he hr hlines h2
      go_enter Try.func10, Try.ntmps10
      go_wp2_with fail
      refine hcut.mono ?_
      rintro e w1 ⟨vl, rfl, hown, hbel⟩
      have HB0 := Lib.hid hbel
      obtain ⟨A, ca, rfl⟩ := own_form hown
      clear hown hbel hcut
      go_wp2_with fail
      go_ret3
      exact ⟨_, _, rfl, World.ownsRow_nil _ _ _ _, World.ownsRow_nil _ _ _ _, HB0.out⟩
  · have he : lookErr s.data.toList = 2 := by unfold lookErr; rw [if_pos (by simp; omega)]
    have hr : lookR s.data.toList = ([], []) := by unfold lookR; rw [if_neg (by omega)]
    have h1' : decide ((65536 : Int) < (s.size : Int)) = true := by rw [decide_eq_true_eq]; omega
    rw [he, hr]
    clear he hr h1
    go_enter Try.func10, Try.ntmps10
    go_wp2
    go_ret3
    exact ⟨_, _, rfl, World.ownsRow_nil _ _ _ _, World.ownsRow_nil _ _ _ _, Below.refl _ _⟩

set_option maxHeartbeats 1000000 in
theorem read_any (s : ByteArray) (w : World) :
    Calls Try.prog 13 #[.string s] w fun e w' => ∃ v, e = .returned (.tuple #[v, .int .i64 ((readR s.data.toList).2.1 : Nat), .int .i64 ((readR s.data.toList).2.2 : Nat)]) ∧ w'.ownsRow w.heap.size 9 1 v (readR s.data.toList).1.length (strs (readR s.data.toList).1) ∧ Below w.heap.size w w' := by
  have hlook := look_full s w
  by_cases he : lookErr s.data.toList = 0
  · have hr : readR s.data.toList = readOf (lookR s.data.toList).1 (firstBad (lookR s.data.toList).2 0) := by unfold readR; rw [if_pos he]
    rw [he] at hlook
    rw [hr]
    clear hr he
    obtain ⟨X, hX⟩ : ∃ X, (lookR s.data.toList).1 = X := ⟨_, rfl⟩
    obtain ⟨Y, hY⟩ : ∃ Y, (lookR s.data.toList).2 = Y := ⟨_, rfl⟩
    rw [hX, hY] at hlook
    rw [hX, hY]
    clear hX hY
    obtain ⟨F, hF⟩ : ∃ F, firstBad Y 0 = F := ⟨_, rfl⟩
    rw [hF]
    have HF := Lib.hid hF
    clear hF
    obtain ⟨G, hG⟩ : ∃ G, readOf X F = G := ⟨_, rfl⟩
    rw [hG]
    have HG := Lib.hid hG
    clear hG
    go_enter Try.func13, Try.ntmps13
    go_wp2_with fail
    refine hlook.mono ?_
    rintro e w1 ⟨v1, v2, rfl, hx, hy, hbel⟩
    have HX := Lib.hid hx
    have HY := Lib.hid hy
    have HB := Lib.hid hbel
    have hyl := own_len hy
    obtain ⟨A, ca, rfl⟩ := own_form hy
    clear hx hy hbel hlook
    go_wp2_with fail
    go_loop [20] (fun vi => ∃ k : Nat, k ≤ Y.length ∧ vi = .int .i64 k ∧ firstBad Y 0 = firstBad (Y.drop k) k) (fun vi => Y.length - (intOf vi).toNat)
    case atStart => exact ⟨0, Nat.zero_le _, rfl, rfl⟩
    case round =>
      obtain ⟨k, hk, rfl, hfb⟩ := hrel
      have HFB := Lib.hid hfb
      clear hfb
      by_cases h : k < Y.length
      · obtain ⟨g, rfl, hcell⟩ := err_cell HY.out h
        have hd : Y.drop k = Y.getD k 0 :: Y.drop (k + 1) := by
          rw [List.drop_eq_getElem_cons h, List.getD_eq_getElem?_getD, List.getElem?_eq_getElem h]; rfl
        obtain ⟨y, hyy⟩ : ∃ y, Y.getD k 0 = y := ⟨_, rfl⟩
        rw [hyy] at hcell hd
        have HD := Lib.hid hd
        clear hyy hd
        by_cases hy0 : y = 0
        · have hnx : firstBad Y 0 = firstBad (Y.drop (k + 1)) (k + 1) := by
            rw [HFB.out, HD.out]; show (if y = 0 then _ else _) = _; rw [if_pos hy0]
          have HN := Lib.hid hnx
          have hy1 : ((y : Int) != 0) = false := by rw [hy0]; rfl
          clear hnx hy0
          go_wp2
          go_round
          case rel => exact ⟨k + 1, by omega, by go_num, HN.out⟩
          case measure => first | (simp [intOf]; done) | (simp [intOf]; omega)
        · have hnx : G = ([], k + 1, y) := by
            have h5 : F = some (k, y) := by
              rw [← HF.out, HFB.out, HD.out]; show (if y = 0 then _ else _) = _; rw [if_neg hy0]
            rw [← HG.out, h5]; rfl
          have HN := Lib.hid hnx
          have hy1 : ((y : Int) != 0) = true := by rw [bne_iff_ne]; omega
          clear hnx hy0
          go_wp2
          go_region
          all_goals (try go_wp2)
          all_goals go_ret3
          all_goals exact ⟨_, by rw [HN.out]; rfl, by rw [HN.out]; exact World.ownsRow_nil _ _ _ _, by first | exact HB.out | exact HB.out.drew | exact below_drw HB.out _⟩
      · have hkl : k = Y.length := by omega
        have hnx : G = (X, 0, 0) := by
          have h5 : F = none := by
            rw [← HF.out, HFB.out, hkl, List.drop_length]; rfl
          rw [← HG.out, h5]; rfl
        have HN := Lib.hid hnx
        clear hnx
        subst hkl
        go_wp2
        go_ret3
        exact ⟨_, by rw [HN.out]; rfl, by rw [HN.out]; exact HX.out, HB.out⟩
  · have hr : readR s.data.toList = ([], 0, lookErr s.data.toList) := by unfold readR; rw [if_neg he]
    rw [hr]
    obtain ⟨E, hE⟩ : ∃ E, lookErr s.data.toList = E := ⟨_, rfl⟩
    rw [hE] at hlook he ⊢
    have he1 : ((E : Int) != 0) = true := by rw [bne_iff_ne]; omega
    clear hr hE he
    go_enter Try.func13, Try.ntmps13
    go_wp2_with fail
    refine hlook.mono ?_
    rintro e w1 ⟨v1, v2, rfl, hx, hy, hbel⟩
    have HB := Lib.hid hbel
    clear hx hy hbel hlook
    go_wp2_with fail
    go_ret3
    exact ⟨_, rfl, World.ownsRow_nil _ _ _ _, HB.out⟩

set_option maxHeartbeats 1000000 in
theorem refRead_any (s : ByteArray) (w : World) :
    Calls Try.prog 14 #[.string s] w fun e w' => ∃ v, e = .returned (.tuple #[v, .int .i64 ((readR s.data.toList).2.1 : Nat), .int .i64 ((readR s.data.toList).2.2 : Nat)]) ∧ w'.ownsRow w.heap.size 9 1 v (readR s.data.toList).1.length (strs (readR s.data.toList).1) ∧ Below w.heap.size w w' := by
  have hlook := refLook_full s w
  by_cases he : lookErr s.data.toList = 0
  · have hr : readR s.data.toList = readOf (lookR s.data.toList).1 (firstBad (lookR s.data.toList).2 0) := by unfold readR; rw [if_pos he]
    rw [he] at hlook
    rw [hr]
    clear hr he
    obtain ⟨X, hX⟩ : ∃ X, (lookR s.data.toList).1 = X := ⟨_, rfl⟩
    obtain ⟨Y, hY⟩ : ∃ Y, (lookR s.data.toList).2 = Y := ⟨_, rfl⟩
    rw [hX, hY] at hlook
    rw [hX, hY]
    clear hX hY
    obtain ⟨F, hF⟩ : ∃ F, firstBad Y 0 = F := ⟨_, rfl⟩
    rw [hF]
    have HF := Lib.hid hF
    clear hF
    obtain ⟨G, hG⟩ : ∃ G, readOf X F = G := ⟨_, rfl⟩
    rw [hG]
    have HG := Lib.hid hG
    clear hG
    go_enter Try.func14, Try.ntmps14
    go_wp2_with fail
    refine hlook.mono ?_
    rintro e w1 ⟨v1, v2, rfl, hx, hy, hbel⟩
    have HX := Lib.hid hx
    have HY := Lib.hid hy
    have HB := Lib.hid hbel
    have hyl := own_len hy
    obtain ⟨A, ca, rfl⟩ := own_form hy
    clear hx hy hbel hlook
    go_wp2_with fail
    go_loop [8] (fun vi => ∃ k : Nat, k ≤ Y.length ∧ vi = .int .i64 k ∧ firstBad Y 0 = firstBad (Y.drop k) k) (fun vi => Y.length - (intOf vi).toNat)
    case atStart => exact ⟨0, Nat.zero_le _, rfl, rfl⟩
    case round =>
      obtain ⟨k, hk, rfl, hfb⟩ := hrel
      have HFB := Lib.hid hfb
      clear hfb
      by_cases h : k < Y.length
      · obtain ⟨g, rfl, hcell⟩ := err_cell HY.out h
        have hd : Y.drop k = Y.getD k 0 :: Y.drop (k + 1) := by
          rw [List.drop_eq_getElem_cons h, List.getD_eq_getElem?_getD, List.getElem?_eq_getElem h]; rfl
        obtain ⟨y, hyy⟩ : ∃ y, Y.getD k 0 = y := ⟨_, rfl⟩
        rw [hyy] at hcell hd
        have HD := Lib.hid hd
        clear hyy hd
        by_cases hy0 : y = 0
        · have hnx : firstBad Y 0 = firstBad (Y.drop (k + 1)) (k + 1) := by
            rw [HFB.out, HD.out]; show (if y = 0 then _ else _) = _; rw [if_pos hy0]
          have HN := Lib.hid hnx
          have hy1 : ((y : Int) != 0) = false := by rw [hy0]; rfl
          clear hnx hy0
          go_wp2
          go_round
          case rel => exact ⟨k + 1, by omega, by go_num, HN.out⟩
          case measure => first | (simp [intOf]; done) | (simp [intOf]; omega)
        · have hnx : G = ([], k + 1, y) := by
            have h5 : F = some (k, y) := by
              rw [← HF.out, HFB.out, HD.out]; show (if y = 0 then _ else _) = _; rw [if_neg hy0]
            rw [← HG.out, h5]; rfl
          have HN := Lib.hid hnx
          have hy1 : ((y : Int) != 0) = true := by rw [bne_iff_ne]; omega
          clear hnx hy0
          go_wp2
          go_region
          all_goals (try go_wp2)
          all_goals go_ret3
          all_goals exact ⟨_, by rw [HN.out]; rfl, by rw [HN.out]; exact World.ownsRow_nil _ _ _ _, by first | exact HB.out | exact HB.out.drew | exact below_drw HB.out _⟩
      · have hkl : k = Y.length := by omega
        have hnx : G = (X, 0, 0) := by
          have h5 : F = none := by
            rw [← HF.out, HFB.out, hkl, List.drop_length]; rfl
          rw [← HG.out, h5]; rfl
        have HN := Lib.hid hnx
        clear hnx
        subst hkl
        go_wp2
        go_ret3
        exact ⟨_, by rw [HN.out]; rfl, by rw [HN.out]; exact HX.out, HB.out⟩
  · have hr : readR s.data.toList = ([], 0, lookErr s.data.toList) := by unfold readR; rw [if_neg he]
    rw [hr]
    obtain ⟨E, hE⟩ : ∃ E, lookErr s.data.toList = E := ⟨_, rfl⟩
    rw [hE] at hlook he ⊢
    have he1 : ((E : Int) != 0) = true := by rw [bne_iff_ne]; omega
    clear hr hE he
    go_enter Try.func14, Try.ntmps14
    go_wp2_with fail
    refine hlook.mono ?_
    rintro e w1 ⟨v1, v2, rfl, hx, hy, hbel⟩
    have HB := Lib.hid hbel
    clear hx hy hbel hlook
    go_wp2_with fail
    go_ret3
    exact ⟨_, rfl, World.ownsRow_nil _ _ _ _, HB.out⟩
end Go.Proofs.Ytjfnkdgkkoffeaa
