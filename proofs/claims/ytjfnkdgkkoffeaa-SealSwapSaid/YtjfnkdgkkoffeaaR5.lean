/- Walks: a text looked at, line by line. Conditions: none. -/
import Derived.Test.YtjfnkdgkkoffeaaR4
namespace Go.Proofs.Ytjfnkdgkkoffeaa
open Go.RowKit SealLaw

def errs (l : List Nat) : List Value := l.map fun n : Nat => Value.int .i64 (n : Int)
theorem Try.info25 : (Try.prog.info? 25).map (fun i => (i.zero, i.size, i.bytes)) = some (some (.int .i64 0), 1, 8) := by kernel_rfl
theorem strs_snoc (X : List Bytes) (x : Bytes) : strs (X ++ [x]) = strs X ++ [.string ⟨x.toArray⟩] := by simp [strs]
theorem errs_snoc (X : List Nat) (x : Nat) : errs (X ++ [x]) = errs X ++ [.int .i64 x] := by simp [errs]

/-- two rows in two blocks -/
def Disj (v u : Value) : Prop := v.ownBlock = none ∨ v.ownBlock ≠ u.ownBlock
theorem disj_kept {v u : Value} (h : Disj v u) : u.ownBlock = none ∨ u.ownBlock ≠ v.ownBlock := by
  rcases h with h | h
  · cases hu : u.ownBlock with
    | none => exact Or.inl rfl
    | some x => exact Or.inr (by rw [h]; simp)
  · exact Or.inr (fun e => h e.symm)
theorem disj_kept' {v u : Value} (h : Disj v u) : v.ownBlock = none ∨ v.ownBlock ≠ u.ownBlock := h
theorem disj_next {w : World} {v v' u : Value} {base size n : Nat} {e : TypeId} {xs : List Value} {m : Nat} (hat : v'.ownBlock = v.ownBlock ∨ v'.ownBlock = some m) (hm : w.heap.size ≤ m) (h : Disj v u) (hu : w.ownsRow base e size u n xs) : Disj v' u := by
  rcases hat with h1 | h1
  · unfold Disj; rw [h1]; exact h
  · refine Or.inr ?_
    rw [h1]
    intro e
    have := (hu.lt _ e.symm).2
    omega
theorem disj_next' {w : World} {v u u' : Value} {base size n : Nat} {e : TypeId} {xs : List Value} {m : Nat} (hat : u'.ownBlock = u.ownBlock ∨ u'.ownBlock = some m) (hm : w.heap.size ≤ m) (h : Disj v u) (hv : w.ownsRow base e size v n xs) : Disj v u' := by
  rcases hat with h1 | h1
  · unfold Disj; rw [h1]; exact h
  · refine Or.inr ?_
    rw [h1]
    intro e
    have := (hv.lt _ e).2
    omega
theorem own_form {w : World} {base n size : Nat} {e : TypeId} {v : Value} {xs : List Value} (h : w.ownsRow base e size v n xs) : ∃ A ca, v = .slice A n ca := by
  rcases h.2 with ⟨rfl, h0⟩ | ⟨g, cap, cur, rfl, _⟩
  · subst h0; exact ⟨_, _, rfl⟩
  · exact ⟨_, _, rfl⟩
theorem own_stays2 {w w' : World} {base n B size : Nat} {e : TypeId} {v : Value} {xs : List Value} (h : w.ownsRow base e size v n xs) (hb : Below B w w') (hB : ∀ k, v.ownBlock = some k → k < B) : w'.ownsRow base e size v n xs := by
  refine ⟨h.1, ?_⟩
  rcases h.2 with h0 | ⟨g, cap, cur, hv, h1, h2, h3⟩
  · exact Or.inl h0
  · refine Or.inr ⟨g, cap, cur, hv, h1, ?_, h3⟩
    rw [hb.block g (hB g (by rw [hv]; rfl))]
    exact h2
theorem own_drew {w : World} {base n size : Nat} {e : TypeId} {v : Value} {xs : List Value} (h : w.ownsRow base e size v n xs) (m : Nat) : (w.drewN m).ownsRow base e size v n xs := h
theorem below_drw {B : Nat} {a w : World} (h : Below B a w) (m : Nat) : Below B a (w.drewN m) := ⟨h.os, h.tape, h.output, h.size, h.block⟩
theorem own_low {w : World} {base B n size : Nat} {e : TypeId} {v : Value} {xs : List Value} (h : w.ownsRow base e size v n xs) (hB : B ≤ base) : w.ownsRow B e size v n xs := by
  refine ⟨h.1, ?_⟩
  rcases h.2 with h0 | ⟨g, cap, cur, hv, h1, h2⟩
  · exact Or.inl h0
  · exact Or.inr ⟨g, cap, cur, hv, Nat.le_trans hB h1, h2⟩
theorem str_cell {w : World} {base k ca : Nat} {A : Option Addr} {l : List Bytes} (h : w.ownsRow base 9 1 (.slice A l.length ca) l.length (strs l)) (hk : k < l.length) : ∃ g, A = some ⟨g, 0, none⟩ ∧ w.cell? ⟨g, k, none⟩ = some (.string ⟨(l.getD k []).toArray⟩) := by
  rcases h.2 with ⟨_, h0⟩ | ⟨g, cap, cur, hv, _⟩
  · omega
  · cases hv
    refine ⟨g, rfl, ?_⟩
    rw [h.cellAt k (by omega)]
    simp [strs, List.getD, List.getElem?_eq_getElem hk]
theorem err_cell {w : World} {base k ca : Nat} {A : Option Addr} {l : List Nat} (h : w.ownsRow base 25 1 (.slice A l.length ca) l.length (errs l)) (hk : k < l.length) : ∃ g, A = some ⟨g, 0, none⟩ ∧ w.cell? ⟨g, k, none⟩ = some (.int .i64 (l.getD k 0 : Nat)) := by
  rcases h.2 with ⟨_, h0⟩ | ⟨g, cap, cur, hv, _⟩
  · omega
  · cases hv
    refine ⟨g, rfl, ?_⟩
    rw [h.cellAt k (by omega)]
    simp [errs, List.getD, List.getElem?_eq_getElem hk]

theorem cut_len : ∀ t : Bytes, ∀ l ∈ (cutL t).1, l.length ≤ t.length
  | [], l, h => by cases h
  | c :: t, l, h => by
    have ih := cut_len t
    unfold cutL at h
    by_cases hc : c = 10
    · rw [if_pos hc] at h
      rcases List.mem_cons.1 h with rfl | h
      · simp
      · have := ih l h; simp; omega
    · rw [if_neg hc] at h
      cases he : (cutL t).1 with
      | nil => rw [he] at h; cases h
      | cons a as' =>
        rw [he] at h ih
        rcases List.mem_cons.1 h with rfl | h
        · have := ih a (List.mem_cons_self ..); simp; omega
        · have := ih l (List.mem_cons_of_mem _ h); simp; omega
theorem lookL_cons (s : Nat) (l : Bytes) (ls : List Bytes) : lookL s (l :: ls) = ((lookOne s l).1 :: (lookL (lookOne s l).2.2 ls).1, (lookOne s l).2.1 :: (lookL (lookOne s l).2.2 ls).2) := rfl
theorem look_none {st : Nat} {L : Bytes} {ls : List Bytes} {X : List Bytes} {Y : List Nat} (h : told L = none) : (X ++ (lookL st (L :: ls)).1, Y ++ (lookL st (L :: ls)).2) = (X ++ [[]] ++ (lookL 0 ls).1, Y ++ [90] ++ (lookL 0 ls).2) := by
  rw [lookL_cons]
  have e : lookOne st L = ([], 90, 0) := by unfold lookOne; rw [h]
  rw [e]; simp
theorem look_some {st v : Nat} {L : Bytes} {ls : List Bytes} {X : List Bytes} {Y : List Nat} (h : told L = some v) : (X ++ (lookL st (L :: ls)).1, Y ++ (lookL st (L :: ls)).2) = (X ++ [said L] ++ (lookL v ls).1, Y ++ [if sumN (st % P) (said L) = v then 0 else 230] ++ (lookL v ls).2) := by
  rw [lookL_cons]
  have e : lookOne st L = (said L, if sumN (st % P) (said L) = v then 0 else 230, v) := by unfold lookOne; rw [h]
  rw [e]; simp
theorem told_short {L : Bytes} (h : ¬ 9 ≤ L.length) : told L = none := by unfold told; rw [if_neg (fun h' => h h'.1)]
theorem told_none1 {L : Bytes} {q : Nat} (hq : L.length = q + 9) (h : L.getD q 0 ≠ 32) : told L = none := by
  unfold told
  rw [if_neg]
  rintro ⟨_, h2⟩
  apply h
  rw [show L.length - 9 = q from by omega] at h2
  rw [List.getD_eq_getElem?_getD, h2]; rfl
theorem told_eq2 {L : Bytes} {q : Nat} (hq : L.length = q + 9) (h : L.getD q 0 = 32) : told L = numL 0 (L.drop (L.length - 8)) := by
  unfold told
  rw [if_pos]
  refine ⟨by omega, ?_⟩
  rw [show L.length - 9 = q from by omega, List.getElem?_eq_getElem (by omega)]
  rw [List.getD_eq_getElem?_getD, List.getElem?_eq_getElem (by omega)] at h
  exact congrArg some h
theorem told_none2 {L : Bytes} {q : Nat} (hq : L.length = q + 9) (h : L.getD q 0 = 32) (hn : numL 0 (L.drop (L.length - 8)) = none) : told L = none := by rw [told_eq2 hq h, hn]
theorem told_some2 {L : Bytes} {q v : Nat} (hq : L.length = q + 9) (h : L.getD q 0 = 32) (hn : numL 0 (L.drop (L.length - 8)) = some v) : told L = some v := by rw [told_eq2 hq h, hn]

set_option maxHeartbeats 1000000 in
theorem look_any_loop (s : ByteArray) (w : World) (hs : s.size ≤ 65536) (hl : (cutL s.data.toList).1.length ≤ 1024) (hr : (cutL s.data.toList).2 = []) :
    Calls Try.prog 9 #[.string s] w fun e w' => ∃ v1 v2, e = .returned (.tuple #[v1, v2, .int .i64 0]) ∧ w'.ownsRow w.heap.size 9 1 v1 (lookL 0 (cutL s.data.toList).1).1.length (strs (lookL 0 (cutL s.data.toList).1).1) ∧ w'.ownsRow w.heap.size 25 1 v2 (lookL 0 (cutL s.data.toList).1).2.length (errs (lookL 0 (cutL s.data.toList).1).2) ∧ Below w.heap.size w w' := by
  obtain ⟨i0, hi, hz0, hz1, hz2⟩ := info_parts Try.info9
  obtain ⟨j0, hj, hy0, hy1, hy2⟩ := info_parts Try.info25
  have hcut := cut_any s hs w
  rw [decide_eq_true hr] at hcut
  have hll : ∀ l ∈ (cutL s.data.toList).1, l.length ≤ 65536 := fun l hl => Nat.le_trans (cut_len _ l hl) (by simpa using hs)
  obtain ⟨lines, hlines⟩ : ∃ x, (cutL s.data.toList).1 = x := ⟨_, rfl⟩
  rw [hlines] at hcut hl hll ⊢
  have HLL := Lib.hid hll
  clear hr hlines hll
  go_enter Try.func9, Try.ntmps9
  go_wp2_with fail
  refine hcut.mono ?_
  rintro e w1 ⟨vl, rfl, hown, hbel⟩
  have HLN := Lib.hid hown
  have HB0 := Lib.hid hbel
  have hlf := own_form hown
  obtain ⟨A, ca, rfl⟩ := hlf
  clear hown hbel hcut
  go_wp2_with fail
  go_loopw [7, 8, 9, 31] (fun vo vh vs vi wr => ∃ (k st : Nat) (X : List Bytes) (Y : List Nat), k ≤ lines.length ∧ vi = .int .i64 k ∧ vs = .int .u32 st ∧ st < 4294967296 ∧ wr.ownsRow w1.heap.size 9 1 vo k (strs X) ∧ wr.ownsRow w1.heap.size 25 1 vh k (errs Y) ∧ Disj vo vh ∧ Below w1.heap.size w1 wr ∧ lookL 0 lines = (X ++ (lookL st (lines.drop k)).1, Y ++ (lookL st (lines.drop k)).2)) (fun _ _ _ vi _ => lines.length - (intOf vi).toNat)
  case atStart => exact ⟨0, 0, [], [], Nat.zero_le _, rfl, rfl, by omega, World.ownsRow_nil _ _ _ _, World.ownsRow_nil _ _ _ _, Or.inl rfl, Below.refl _ _, rfl⟩
  case round =>
    obtain ⟨k, st, X, Y, hk, rfl, rfl, hst, hsa, hho, hdj, hbel, hlook⟩ := hrel
    have HB := Lib.hid hbel
    have HSA := Lib.hid hsa
    have HHO := Lib.hid hho
    have HDJ := Lib.hid hdj
    have HL := Lib.hid hlook
    have hsz' := hbel.size
    clear hsa hho hdj hbel hlook
    by_cases h : k < lines.length
    · have hrow := own_stays2 HLN.out HB.out (fun k hk => (HLN.out.lt k hk).2)
      obtain ⟨g, rfl, hcell⟩ := str_cell hrow h
      have hdrop : lines.drop k = lines.getD k [] :: lines.drop (k + 1) := by
        rw [List.drop_eq_getElem_cons h, List.getD_eq_getElem?_getD, List.getElem?_eq_getElem h]; rfl
      have hLb : (lines.getD k []).length ≤ 65536 := HLL.out _ (by rw [List.getD_eq_getElem?_getD, List.getElem?_eq_getElem h]; exact List.getElem_mem h)
      obtain ⟨L, hL⟩ : ∃ L, lines.getD k [] = L := ⟨_, rfl⟩
      rw [hL] at hcell hdrop hLb
      have hLL : lookL 0 lines = (X ++ (lookL st (L :: lines.drop (k + 1))).1, Y ++ (lookL st (L :: lines.drop (k + 1))).2) := by rw [← hdrop]; exact HL.out
      have HL := Lib.hid hLL
      obtain ⟨b, hb⟩ : ∃ b : ByteArray, b = ⟨L.toArray⟩ := ⟨_, rfl⟩
      have hbl : b.data.toList = L := by rw [hb]
      have hbs : b.size = L.length := by rw [hb]; rfl
      rw [← hb] at hcell
      have HBL := Lib.hid hbl
      clear hrow hdrop hL hLL hb hbl
      by_cases h9 : 9 ≤ L.length
      · obtain ⟨q, hq⟩ : ∃ q, L.length = q + 9 := ⟨L.length - 9, by omega⟩
        rw [hq] at hbs
        have hbt := bL_at b q
        have hbv : bL b q = (L.getD q 0).toNat := by unfold bL; rw [HBL.out]
        by_cases h32 : L.getD q 0 = 32
        · rw [hbv, h32] at hbt
          have hbt' : ∀ h : q < b.size, ((b[q]'h).toNat : Int) = 32 := fun h => by rw [hbt h]; rfl
          have hex : (b.extract (q + 1) b.size).size = 8 := by rw [ByteArray.size_extract]; omega
          have hexl : (b.extract (q + 1) b.size).data.toList = L.drop (L.length - 8) := by
            rw [extract_eq]
            show ((b.data.toList.take b.size).drop (q + 1)) = _
            rw [take_all, HBL.out, hq]; rfl
          have hnum := num_any (b.extract (q + 1) b.size) hex
          rw [hexl] at hnum
          rw [hbs] at hnum
          cases hn : numL 0 (L.drop (L.length - 8)) with
          | none =>
            rw [hn] at hnum
            have HT := Lib.hid (told_none2 hq h32 hn)
            clear hbt hbv h32 hexl hex hn
            go_wp2_with fail
            ((with_reducible refine (hnum _).mono ?_); rintro e w' ⟨rfl, md, rfl⟩)
            have HSA := Lib.hid (own_drew HSA.out (md))
            have HHO := Lib.hid (own_drew HHO.out (md))
            have HB := Lib.hid (below_drw HB.out (md))
            go_wp2_with (first | (at_builtin; refine wpList_append_own_at _ rfl _ _ 22 rfl w1.heap.size 9 i0 (.string .empty) 1 16 Try.underlying22 hi hz0 hz1 hz2 rfl (by decide) _ _ _ rfl (by exact HSA.out.alloc (.cells #[.string ⟨#[]⟩] 9)) ⟨wr.heap.size, 0, none⟩ 1 1 [.string ⟨#[]⟩] rfl rfl ?c1 ?c2 ?c3 ?c4 ?c5 ?_))
            try case c1 => exact cell_one_new _ _ _
            case c2 => simp [Value.oneCell']
            case c3 => unfold maxLen; omega
            case c4 => omega
            case c5 => first | exact hsz' | (simp; omega)
            intro va wa howna hgra _ hata
            have HA1 := Lib.hid howna
            have HA2 := Lib.hid (HHO.out.alloc (.cells #[.string ⟨#[]⟩] 9) |>.kept hgra (disj_kept HDJ.out))
            have HA3 := Lib.hid (Below.grown (HB.out.alloc hsz' (.cells #[.string ⟨#[]⟩] 9)) hgra (by simp; omega) (fun k hk => (HSA.out.lt k hk).1))
            have HA4 := Lib.hid (disj_next hata (by first | (simp; done) | (simp; omega) | omega) HDJ.out HHO.out)
            have hsa : w1.heap.size ≤ wa.heap.size := HA3.out.size
            clear howna hgra hata
            go_wp2_with (first | (at_builtin; refine wpList_append_own_at _ rfl _ _ 28 rfl w1.heap.size 25 j0 (.int .i64 0) 1 8 Try.underlying28 hj hy0 hy1 hy2 rfl (by decide) _ _ _ rfl (by exact HA2.out.alloc (.cells #[.int .i64 90] 25)) ⟨wa.heap.size, 0, none⟩ 1 1 [.int .i64 90] rfl rfl ?c1 ?c2 ?c3 ?c4 ?c5 ?_))
            try case c1 => exact cell_one_new _ _ _
            case c2 => simp [Value.oneCell']
            case c3 => unfold maxLen; omega
            case c4 => omega
            case c5 => first | exact hsa | (simp; omega)
            intro vb wb hownb hgrb _ hatb
            have HB1 := Lib.hid hownb
            have HB2 := Lib.hid (HA1.out.alloc (.cells #[.int .i64 90] 25) |>.kept hgrb (disj_kept' HA4.out))
            have HB3 := Lib.hid (Below.grown (HA3.out.alloc hsa (.cells #[.int .i64 90] 25)) hgrb (by simp; omega) (fun k hk => (HA2.out.lt k hk).1))
            have HB4 := Lib.hid (disj_next' hatb (by first | (simp; done) | (simp; omega) | omega) HA4.out HA1.out)
            clear hownb hgrb hatb
            go_wp2
            go_roundw
            case rel => exact ⟨k + 1, 0, X ++ [[]], Y ++ [90], by omega, by go_num, rfl, by omega, by rw [strs_snoc]; exact HB2.out, by rw [errs_snoc]; exact HB1.out, HB4.out, HB3.out, by rw [HL.out, look_none HT.out]⟩
            case measure => first | (simp [intOf]; done) | (simp [intOf]; omega)
          | some v =>
            rw [hn] at hnum
            have HT := Lib.hid (told_some2 hq h32 hn)
            have hv : v < 4294967296 := by
              have := numL_lt _ 0 v hn
              rw [List.length_drop, hq, show q + 9 - (q + 9 - 8) = 8 from by omega] at this
              omega
            have hsay : (b.extract 0 q).data.toList = said L := by
              rw [extract_eq]
              show ((b.data.toList.take q).drop 0) = _
              rw [HBL.out, List.drop_zero]
              unfold said
              rw [show L.length - 9 = q from by omega]
            have hsum := sum_any st hst (b.extract 0 q) (by rw [ByteArray.size_extract]; omega)
            rw [hsay] at hsum
            have HSAY : Hid (b.extract 0 q = ⟨(said L).toArray⟩) := Lib.hid (by rw [← hsay])
            obtain ⟨S, hS⟩ : ∃ S, sumN (st % P) (said L) = S := ⟨_, rfl⟩
            rw [hS] at hsum
            have HSV := Lib.hid hS
            clear hbt hbv h32 hexl hex hn hsay hS
            by_cases hSv : S = v
            · have hcmp : ((S : Int) != (v : Int)) = false := by rw [hSv]; simp
              have HC := Lib.hid hSv
              clear hSv
              go_wp2_with fail
              ((with_reducible refine (hnum _).mono ?_); rintro e w' ⟨rfl, md, rfl⟩)
              go_wp2_with fail
              ((with_reducible refine (hsum _).mono ?_); rintro e w' ⟨rfl, md2, rfl⟩)
              have HSA := Lib.hid (own_drew HSA.out (md + md2))
              have HHO := Lib.hid (own_drew HHO.out (md + md2))
              have HB := Lib.hid (below_drw HB.out (md + md2))
              go_wp2_with (first | (at_builtin; refine wpList_append_own_at _ rfl _ _ 22 rfl w1.heap.size 9 i0 (.string .empty) 1 16 Try.underlying22 hi hz0 hz1 hz2 rfl (by decide) _ _ _ rfl (by exact HSA.out.alloc (.cells #[.string (b.extract 0 q)] 9)) ⟨wr.heap.size, 0, none⟩ 1 1 [.string (b.extract 0 q)] rfl rfl ?c1 ?c2 ?c3 ?c4 ?c5 ?_))
              try case c1 => exact cell_one_new _ _ _
              case c2 => simp [Value.oneCell']
              case c3 => unfold maxLen; omega
              case c4 => omega
              case c5 => first | exact hsz' | (simp; omega)
              intro va wa howna hgra _ hata
              have HA1 := Lib.hid howna
              have HA2 := Lib.hid (HHO.out.alloc (.cells #[.string (b.extract 0 q)] 9) |>.kept hgra (disj_kept HDJ.out))
              have HA3 := Lib.hid (Below.grown (HB.out.alloc hsz' (.cells #[.string (b.extract 0 q)] 9)) hgra (by simp; omega) (fun k hk => (HSA.out.lt k hk).1))
              have HA4 := Lib.hid (disj_next hata (by first | (simp; done) | (simp; omega) | omega) HDJ.out HHO.out)
              have hsa : w1.heap.size ≤ wa.heap.size := HA3.out.size
              clear howna hgra hata
              go_wp2_with (first | (at_builtin; refine wpList_append_own_at _ rfl _ _ 28 rfl w1.heap.size 25 j0 (.int .i64 0) 1 8 Try.underlying28 hj hy0 hy1 hy2 rfl (by decide) _ _ _ rfl (by exact HA2.out.alloc (.cells #[.int .i64 0] 25)) ⟨wa.heap.size, 0, none⟩ 1 1 [.int .i64 0] rfl rfl ?c1 ?c2 ?c3 ?c4 ?c5 ?_))
              try case c1 => exact cell_one_new _ _ _
              case c2 => simp [Value.oneCell']
              case c3 => unfold maxLen; omega
              case c4 => omega
              case c5 => first | exact hsa | (simp; omega)
              intro vb wb hownb hgrb _ hatb
              have HB1 := Lib.hid hownb
              have HB2 := Lib.hid (HA1.out.alloc (.cells #[.int .i64 0] 25) |>.kept hgrb (disj_kept' HA4.out))
              have HB3 := Lib.hid (Below.grown (HA3.out.alloc hsa (.cells #[.int .i64 0] 25)) hgrb (by simp; omega) (fun k hk => (HA2.out.lt k hk).1))
              have HB4 := Lib.hid (disj_next' hatb (by first | (simp; done) | (simp; omega) | omega) HA4.out HA1.out)
              clear hownb hgrb hatb
              go_wp2
              go_roundw
              case rel => exact ⟨k + 1, v, X ++ [said L], Y ++ [0], by omega, by go_num, rfl, hv, by rw [strs_snoc, ← HSAY.out]; exact HB2.out, by rw [errs_snoc]; exact HB1.out, HB4.out, HB3.out, by rw [HL.out, look_some HT.out]; rw [HSV.out, if_pos HC.out]⟩
              case measure => first | (simp [intOf]; done) | (simp [intOf]; omega)
            · have hcmp : ((S : Int) != (v : Int)) = true := by rw [bne_iff_ne]; omega
              have HC := Lib.hid hSv
              clear hSv
              go_wp2_with fail
              ((with_reducible refine (hnum _).mono ?_); rintro e w' ⟨rfl, md, rfl⟩)
              go_wp2_with fail
              ((with_reducible refine (hsum _).mono ?_); rintro e w' ⟨rfl, md2, rfl⟩)
              have HSA := Lib.hid (own_drew HSA.out (md + md2))
              have HHO := Lib.hid (own_drew HHO.out (md + md2))
              have HB := Lib.hid (below_drw HB.out (md + md2))
              go_wp2_with (first | (at_builtin; refine wpList_append_own_at _ rfl _ _ 22 rfl w1.heap.size 9 i0 (.string .empty) 1 16 Try.underlying22 hi hz0 hz1 hz2 rfl (by decide) _ _ _ rfl (by exact HSA.out.alloc (.cells #[.string (b.extract 0 q)] 9)) ⟨wr.heap.size, 0, none⟩ 1 1 [.string (b.extract 0 q)] rfl rfl ?c1 ?c2 ?c3 ?c4 ?c5 ?_))
              try case c1 => exact cell_one_new _ _ _
              case c2 => simp [Value.oneCell']
              case c3 => unfold maxLen; omega
              case c4 => omega
              case c5 => first | exact hsz' | (simp; omega)
              intro va wa howna hgra _ hata
              have HA1 := Lib.hid howna
              have HA2 := Lib.hid (HHO.out.alloc (.cells #[.string (b.extract 0 q)] 9) |>.kept hgra (disj_kept HDJ.out))
              have HA3 := Lib.hid (Below.grown (HB.out.alloc hsz' (.cells #[.string (b.extract 0 q)] 9)) hgra (by simp; omega) (fun k hk => (HSA.out.lt k hk).1))
              have HA4 := Lib.hid (disj_next hata (by first | (simp; done) | (simp; omega) | omega) HDJ.out HHO.out)
              have hsa : w1.heap.size ≤ wa.heap.size := HA3.out.size
              clear howna hgra hata
              go_wp2_with (first | (at_builtin; refine wpList_append_own_at _ rfl _ _ 28 rfl w1.heap.size 25 j0 (.int .i64 0) 1 8 Try.underlying28 hj hy0 hy1 hy2 rfl (by decide) _ _ _ rfl (by exact HA2.out.alloc (.cells #[.int .i64 230] 25)) ⟨wa.heap.size, 0, none⟩ 1 1 [.int .i64 230] rfl rfl ?c1 ?c2 ?c3 ?c4 ?c5 ?_))
              try case c1 => exact cell_one_new _ _ _
              case c2 => simp [Value.oneCell']
              case c3 => unfold maxLen; omega
              case c4 => omega
              case c5 => first | exact hsa | (simp; omega)
              intro vb wb hownb hgrb _ hatb
              have HB1 := Lib.hid hownb
              have HB2 := Lib.hid (HA1.out.alloc (.cells #[.int .i64 230] 25) |>.kept hgrb (disj_kept' HA4.out))
              have HB3 := Lib.hid (Below.grown (HA3.out.alloc hsa (.cells #[.int .i64 230] 25)) hgrb (by simp; omega) (fun k hk => (HA2.out.lt k hk).1))
              have HB4 := Lib.hid (disj_next' hatb (by first | (simp; done) | (simp; omega) | omega) HA4.out HA1.out)
              clear hownb hgrb hatb
              go_wp2
              go_roundw
              case rel => exact ⟨k + 1, v, X ++ [said L], Y ++ [230], by omega, by go_num, rfl, hv, by rw [strs_snoc, ← HSAY.out]; exact HB2.out, by rw [errs_snoc]; exact HB1.out, HB4.out, HB3.out, by rw [HL.out, look_some HT.out]; rw [HSV.out, if_neg HC.out]⟩
              case measure => first | (simp [intOf]; done) | (simp [intOf]; omega)
        · have HT := Lib.hid (told_none1 hq h32)
          have hne : ((bL b q : Int) == 32) = false := by
            rw [beq_eq_false_iff_ne, hbv]
            intro e
            exact h32 (UInt8.toNat_inj.1 (by rw [show (32 : UInt8).toNat = 32 from rfl]; omega))
          clear hbv h32
          obtain ⟨z, hz⟩ : ∃ z, bL b q = z := ⟨_, rfl⟩
          rw [hz] at hbt hne
          clear hz
          have HSA := Lib.hid (own_drew HSA.out (0))
          have HHO := Lib.hid (own_drew HHO.out (0))
          have HB := Lib.hid (below_drw HB.out (0))
          go_wp2_with (first | (at_builtin; refine wpList_append_own_at _ rfl _ _ 22 rfl w1.heap.size 9 i0 (.string .empty) 1 16 Try.underlying22 hi hz0 hz1 hz2 rfl (by decide) _ _ _ rfl (by exact HSA.out.alloc (.cells #[.string ⟨#[]⟩] 9)) ⟨wr.heap.size, 0, none⟩ 1 1 [.string ⟨#[]⟩] rfl rfl ?c1 ?c2 ?c3 ?c4 ?c5 ?_))
          try case c1 => exact cell_one_new _ _ _
          case c2 => simp [Value.oneCell']
          case c3 => unfold maxLen; omega
          case c4 => omega
          case c5 => first | exact hsz' | (simp; omega)
          intro va wa howna hgra _ hata
          have HA1 := Lib.hid howna
          have HA2 := Lib.hid (HHO.out.alloc (.cells #[.string ⟨#[]⟩] 9) |>.kept hgra (disj_kept HDJ.out))
          have HA3 := Lib.hid (Below.grown (HB.out.alloc hsz' (.cells #[.string ⟨#[]⟩] 9)) hgra (by simp; omega) (fun k hk => (HSA.out.lt k hk).1))
          have HA4 := Lib.hid (disj_next hata (by first | (simp; done) | (simp; omega) | omega) HDJ.out HHO.out)
          have hsa : w1.heap.size ≤ wa.heap.size := HA3.out.size
          clear howna hgra hata
          go_wp2_with (first | (at_builtin; refine wpList_append_own_at _ rfl _ _ 28 rfl w1.heap.size 25 j0 (.int .i64 0) 1 8 Try.underlying28 hj hy0 hy1 hy2 rfl (by decide) _ _ _ rfl (by exact HA2.out.alloc (.cells #[.int .i64 90] 25)) ⟨wa.heap.size, 0, none⟩ 1 1 [.int .i64 90] rfl rfl ?c1 ?c2 ?c3 ?c4 ?c5 ?_))
          try case c1 => exact cell_one_new _ _ _
          case c2 => simp [Value.oneCell']
          case c3 => unfold maxLen; omega
          case c4 => omega
          case c5 => first | exact hsa | (simp; omega)
          intro vb wb hownb hgrb _ hatb
          have HB1 := Lib.hid hownb
          have HB2 := Lib.hid (HA1.out.alloc (.cells #[.int .i64 90] 25) |>.kept hgrb (disj_kept' HA4.out))
          have HB3 := Lib.hid (Below.grown (HA3.out.alloc hsa (.cells #[.int .i64 90] 25)) hgrb (by simp; omega) (fun k hk => (HA2.out.lt k hk).1))
          have HB4 := Lib.hid (disj_next' hatb (by first | (simp; done) | (simp; omega) | omega) HA4.out HA1.out)
          clear hownb hgrb hatb
          go_wp2
          go_roundw
          case rel => exact ⟨k + 1, 0, X ++ [[]], Y ++ [90], by omega, by go_num, rfl, by omega, by rw [strs_snoc]; exact HB2.out, by rw [errs_snoc]; exact HB1.out, HB4.out, HB3.out, by rw [HL.out, look_none HT.out]⟩
          case measure => first | (simp [intOf]; done) | (simp [intOf]; omega)
      · have HT := Lib.hid (told_short h9)
        have hl9 : decide ((0 : Int) ≤ (L.length : Int) - 9) = false := by rw [decide_eq_false_iff_not]; omega
        have hl9b : decide ((9 : Int) ≤ (L.length : Int)) = false := by rw [decide_eq_false_iff_not]; omega
        have hl9c : L.length < 9 := by omega
        clear h9
        have HSA := Lib.hid (own_drew HSA.out (0))
        have HHO := Lib.hid (own_drew HHO.out (0))
        have HB := Lib.hid (below_drw HB.out (0))
        go_wp2_with (first | (at_builtin; refine wpList_append_own_at _ rfl _ _ 22 rfl w1.heap.size 9 i0 (.string .empty) 1 16 Try.underlying22 hi hz0 hz1 hz2 rfl (by decide) _ _ _ rfl (by exact HSA.out.alloc (.cells #[.string ⟨#[]⟩] 9)) ⟨wr.heap.size, 0, none⟩ 1 1 [.string ⟨#[]⟩] rfl rfl ?c1 ?c2 ?c3 ?c4 ?c5 ?_))
        try case c1 => exact cell_one_new _ _ _
        case c2 => simp [Value.oneCell']
        case c3 => unfold maxLen; omega
        case c4 => omega
        case c5 => first | exact hsz' | (simp; omega)
        intro va wa howna hgra _ hata
        have HA1 := Lib.hid howna
        have HA2 := Lib.hid (HHO.out.alloc (.cells #[.string ⟨#[]⟩] 9) |>.kept hgra (disj_kept HDJ.out))
        have HA3 := Lib.hid (Below.grown (HB.out.alloc hsz' (.cells #[.string ⟨#[]⟩] 9)) hgra (by simp; omega) (fun k hk => (HSA.out.lt k hk).1))
        have HA4 := Lib.hid (disj_next hata (by first | (simp; done) | (simp; omega) | omega) HDJ.out HHO.out)
        have hsa : w1.heap.size ≤ wa.heap.size := HA3.out.size
        clear howna hgra hata
        go_wp2_with (first | (at_builtin; refine wpList_append_own_at _ rfl _ _ 28 rfl w1.heap.size 25 j0 (.int .i64 0) 1 8 Try.underlying28 hj hy0 hy1 hy2 rfl (by decide) _ _ _ rfl (by exact HA2.out.alloc (.cells #[.int .i64 90] 25)) ⟨wa.heap.size, 0, none⟩ 1 1 [.int .i64 90] rfl rfl ?c1 ?c2 ?c3 ?c4 ?c5 ?_))
        try case c1 => exact cell_one_new _ _ _
        case c2 => simp [Value.oneCell']
        case c3 => unfold maxLen; omega
        case c4 => omega
        case c5 => first | exact hsa | (simp; omega)
        intro vb wb hownb hgrb _ hatb
        have HB1 := Lib.hid hownb
        have HB2 := Lib.hid (HA1.out.alloc (.cells #[.int .i64 90] 25) |>.kept hgrb (disj_kept' HA4.out))
        have HB3 := Lib.hid (Below.grown (HA3.out.alloc hsa (.cells #[.int .i64 90] 25)) hgrb (by simp; omega) (fun k hk => (HA2.out.lt k hk).1))
        have HB4 := Lib.hid (disj_next' hatb (by first | (simp; done) | (simp; omega) | omega) HA4.out HA1.out)
        clear hownb hgrb hatb
        go_wp2
        go_roundw
        case rel => exact ⟨k + 1, 0, X ++ [[]], Y ++ [90], by omega, by go_num, rfl, by omega, by rw [strs_snoc]; exact HB2.out, by rw [errs_snoc]; exact HB1.out, HB4.out, HB3.out, by rw [HL.out, look_none HT.out]⟩
        case measure => first | (simp [intOf]; done) | (simp [intOf]; omega)
    · have hkl : k = lines.length := by omega
      have hfin := HL.out
      rw [hkl, List.drop_length] at hfin
      have hX : X = (lookL 0 lines).1 := by rw [hfin]; simp [lookL]
      have hY : Y = (lookL 0 lines).2 := by rw [hfin]; simp [lookL]
      have r1 := HSA.out
      have r2 := HHO.out
      rw [hkl, hX] at r1
      rw [hkl, hY] at r2
      obtain ⟨n1, n2⟩ := lookL_length 0 lines
      rw [← n1] at r1
      rw [← n2] at r2
      have R1 := Lib.hid r1
      have R2 := Lib.hid r2
      clear hfin hX hY r1 r2 n1 n2
      subst hkl
      go_wp2
      go_ret3
      exact ⟨_, _, rfl, own_low R1.out HB0.out.size, own_low R2.out HB0.out.size, HB0.out.trans (HB.out.mono HB0.out.size)⟩

set_option maxHeartbeats 1000000 in
theorem refLook_any_loop (s : ByteArray) (w : World) (hs : s.size ≤ 65536) (hl : (cutL s.data.toList).1.length ≤ 1024) (hr : (cutL s.data.toList).2 = []) :
    Calls Try.prog 10 #[.string s] w fun e w' => ∃ v1 v2, e = .returned (.tuple #[v1, v2, .int .i64 0]) ∧ w'.ownsRow w.heap.size 9 1 v1 (lookL 0 (cutL s.data.toList).1).1.length (strs (lookL 0 (cutL s.data.toList).1).1) ∧ w'.ownsRow w.heap.size 25 1 v2 (lookL 0 (cutL s.data.toList).1).2.length (errs (lookL 0 (cutL s.data.toList).1).2) ∧ Below w.heap.size w w' := by
  obtain ⟨i0, hi, hz0, hz1, hz2⟩ := info_parts Try.info9
  obtain ⟨j0, hj, hy0, hy1, hy2⟩ := info_parts Try.info25
  have hcut := refCut_any s hs w
  rw [decide_eq_true hr] at hcut
  have hll : ∀ l ∈ (cutL s.data.toList).1, l.length ≤ 65536 := fun l hl => Nat.le_trans (cut_len _ l hl) (by simpa using hs)
  obtain ⟨lines, hlines⟩ : ∃ x, (cutL s.data.toList).1 = x := ⟨_, rfl⟩
  rw [hlines] at hcut hl hll ⊢
  have HLL := Lib.hid hll
  clear hr hlines hll
  go_enter Try.func10, Try.ntmps10
  go_wp2_with fail
  refine hcut.mono ?_
  rintro e w1 ⟨vl, rfl, hown, hbel⟩
  have HLN := Lib.hid hown
  have HB0 := Lib.hid hbel
  have hlf := own_form hown
  obtain ⟨A, ca, rfl⟩ := hlf
  clear hown hbel hcut
  go_wp2_with fail
  go_loopw [7, 8, 9, 10] (fun vo vh vs vi wr => ∃ (k st : Nat) (X : List Bytes) (Y : List Nat), k ≤ lines.length ∧ vi = .int .i64 k ∧ vs = .int .u32 st ∧ st < 4294967296 ∧ wr.ownsRow w1.heap.size 9 1 vo k (strs X) ∧ wr.ownsRow w1.heap.size 25 1 vh k (errs Y) ∧ Disj vo vh ∧ Below w1.heap.size w1 wr ∧ lookL 0 lines = (X ++ (lookL st (lines.drop k)).1, Y ++ (lookL st (lines.drop k)).2)) (fun _ _ _ vi _ => lines.length - (intOf vi).toNat)
  case atStart => exact ⟨0, 0, [], [], Nat.zero_le _, rfl, rfl, by omega, World.ownsRow_nil _ _ _ _, World.ownsRow_nil _ _ _ _, Or.inl rfl, Below.refl _ _, rfl⟩
  case round =>
    obtain ⟨k, st, X, Y, hk, rfl, rfl, hst, hsa, hho, hdj, hbel, hlook⟩ := hrel
    have HB := Lib.hid hbel
    have HSA := Lib.hid hsa
    have HHO := Lib.hid hho
    have HDJ := Lib.hid hdj
    have HL := Lib.hid hlook
    have hsz' := hbel.size
    clear hsa hho hdj hbel hlook
    by_cases h : k < lines.length
    · have hrow := own_stays2 HLN.out HB.out (fun k hk => (HLN.out.lt k hk).2)
      obtain ⟨g, rfl, hcell⟩ := str_cell hrow h
      have hdrop : lines.drop k = lines.getD k [] :: lines.drop (k + 1) := by
        rw [List.drop_eq_getElem_cons h, List.getD_eq_getElem?_getD, List.getElem?_eq_getElem h]; rfl
      have hLb : (lines.getD k []).length ≤ 65536 := HLL.out _ (by rw [List.getD_eq_getElem?_getD, List.getElem?_eq_getElem h]; exact List.getElem_mem h)
      obtain ⟨L, hL⟩ : ∃ L, lines.getD k [] = L := ⟨_, rfl⟩
      rw [hL] at hcell hdrop hLb
      have hLL : lookL 0 lines = (X ++ (lookL st (L :: lines.drop (k + 1))).1, Y ++ (lookL st (L :: lines.drop (k + 1))).2) := by rw [← hdrop]; exact HL.out
      have HL := Lib.hid hLL
      obtain ⟨b, hb⟩ : ∃ b : ByteArray, b = ⟨L.toArray⟩ := ⟨_, rfl⟩
      have hbl : b.data.toList = L := by rw [hb]
      have hbs : b.size = L.length := by rw [hb]; rfl
      rw [← hb] at hcell
      have HBL := Lib.hid hbl
      clear hrow hdrop hL hLL hb hbl
      by_cases h9 : 9 ≤ L.length
      · obtain ⟨q, hq⟩ : ∃ q, L.length = q + 9 := ⟨L.length - 9, by omega⟩
        rw [hq] at hbs
        have hbt := bL_at b q
        have hbv : bL b q = (L.getD q 0).toNat := by unfold bL; rw [HBL.out]
        by_cases h32 : L.getD q 0 = 32
        · rw [hbv, h32] at hbt
          have hbt' : ∀ h : q < b.size, ((b[q]'h).toNat : Int) = 32 := fun h => by rw [hbt h]; rfl
          have hex : (b.extract (q + 1) b.size).size = 8 := by rw [ByteArray.size_extract]; omega
          have hexl : (b.extract (q + 1) b.size).data.toList = L.drop (L.length - 8) := by
            rw [extract_eq]
            show ((b.data.toList.take b.size).drop (q + 1)) = _
            rw [take_all, HBL.out, hq]; rfl
          have hnum := refNum_any (b.extract (q + 1) b.size) hex
          rw [hexl] at hnum
          rw [hbs] at hnum
          cases hn : numL 0 (L.drop (L.length - 8)) with
          | none =>
            rw [hn] at hnum
            have HT := Lib.hid (told_none2 hq h32 hn)
            clear hbt hbv h32 hexl hex hn
            go_wp2_with fail
            ((with_reducible refine (hnum _).mono ?_); rintro e w' ⟨rfl, md, rfl⟩)
            have HSA := Lib.hid (own_drew HSA.out (md))
            have HHO := Lib.hid (own_drew HHO.out (md))
            have HB := Lib.hid (below_drw HB.out (md))
            go_wp2_with (first | (at_builtin; refine wpList_append_own_at _ rfl _ _ 22 rfl w1.heap.size 9 i0 (.string .empty) 1 16 Try.underlying22 hi hz0 hz1 hz2 rfl (by decide) _ _ _ rfl (by exact HSA.out.alloc (.cells #[.string ⟨#[]⟩] 9)) ⟨wr.heap.size, 0, none⟩ 1 1 [.string ⟨#[]⟩] rfl rfl ?c1 ?c2 ?c3 ?c4 ?c5 ?_))
            try case c1 => exact cell_one_new _ _ _
            case c2 => simp [Value.oneCell']
            case c3 => unfold maxLen; omega
            case c4 => omega
            case c5 => first | exact hsz' | (simp; omega)
            intro va wa howna hgra _ hata
            have HA1 := Lib.hid howna
            have HA2 := Lib.hid (HHO.out.alloc (.cells #[.string ⟨#[]⟩] 9) |>.kept hgra (disj_kept HDJ.out))
            have HA3 := Lib.hid (Below.grown (HB.out.alloc hsz' (.cells #[.string ⟨#[]⟩] 9)) hgra (by simp; omega) (fun k hk => (HSA.out.lt k hk).1))
            have HA4 := Lib.hid (disj_next hata (by first | (simp; done) | (simp; omega) | omega) HDJ.out HHO.out)
            have hsa : w1.heap.size ≤ wa.heap.size := HA3.out.size
            clear howna hgra hata
            go_wp2_with (first | (at_builtin; refine wpList_append_own_at _ rfl _ _ 28 rfl w1.heap.size 25 j0 (.int .i64 0) 1 8 Try.underlying28 hj hy0 hy1 hy2 rfl (by decide) _ _ _ rfl (by exact HA2.out.alloc (.cells #[.int .i64 90] 25)) ⟨wa.heap.size, 0, none⟩ 1 1 [.int .i64 90] rfl rfl ?c1 ?c2 ?c3 ?c4 ?c5 ?_))
            try case c1 => exact cell_one_new _ _ _
            case c2 => simp [Value.oneCell']
            case c3 => unfold maxLen; omega
            case c4 => omega
            case c5 => first | exact hsa | (simp; omega)
            intro vb wb hownb hgrb _ hatb
            have HB1 := Lib.hid hownb
            have HB2 := Lib.hid (HA1.out.alloc (.cells #[.int .i64 90] 25) |>.kept hgrb (disj_kept' HA4.out))
            have HB3 := Lib.hid (Below.grown (HA3.out.alloc hsa (.cells #[.int .i64 90] 25)) hgrb (by simp; omega) (fun k hk => (HA2.out.lt k hk).1))
            have HB4 := Lib.hid (disj_next' hatb (by first | (simp; done) | (simp; omega) | omega) HA4.out HA1.out)
            clear hownb hgrb hatb
            go_wp2
            go_roundw
            case rel => exact ⟨k + 1, 0, X ++ [[]], Y ++ [90], by omega, by go_num, rfl, by omega, by rw [strs_snoc]; exact HB2.out, by rw [errs_snoc]; exact HB1.out, HB4.out, HB3.out, by rw [HL.out, look_none HT.out]⟩
            case measure => first | (simp [intOf]; done) | (simp [intOf]; omega)
          | some v =>
            rw [hn] at hnum
            have HT := Lib.hid (told_some2 hq h32 hn)
            have hv : v < 4294967296 := by
              have := numL_lt _ 0 v hn
              rw [List.length_drop, hq, show q + 9 - (q + 9 - 8) = 8 from by omega] at this
              omega
            have hsay : (b.extract 0 q).data.toList = said L := by
              rw [extract_eq]
              show ((b.data.toList.take q).drop 0) = _
              rw [HBL.out, List.drop_zero]
              unfold said
              rw [show L.length - 9 = q from by omega]
            have hsum := refSum_any st hst (b.extract 0 q) (by rw [ByteArray.size_extract]; omega)
            rw [hsay] at hsum
            have HSAY : Hid (b.extract 0 q = ⟨(said L).toArray⟩) := Lib.hid (by rw [← hsay])
            obtain ⟨S, hS⟩ : ∃ S, sumN (st % P) (said L) = S := ⟨_, rfl⟩
            rw [hS] at hsum
            have HSV := Lib.hid hS
            clear hbt hbv h32 hexl hex hn hsay hS
            by_cases hSv : S = v
            · have hcmp : ((S : Int) != (v : Int)) = false := by rw [hSv]; simp
              have HC := Lib.hid hSv
              clear hSv
              go_wp2_with fail
              ((with_reducible refine (hnum _).mono ?_); rintro e w' ⟨rfl, md, rfl⟩)
              go_wp2_with fail
              ((with_reducible refine (hsum _).mono ?_); rintro e w' ⟨rfl, md2, rfl⟩)
              have HSA := Lib.hid (own_drew HSA.out (md + md2))
              have HHO := Lib.hid (own_drew HHO.out (md + md2))
              have HB := Lib.hid (below_drw HB.out (md + md2))
              go_wp2_with (first | (at_builtin; refine wpList_append_own_at _ rfl _ _ 22 rfl w1.heap.size 9 i0 (.string .empty) 1 16 Try.underlying22 hi hz0 hz1 hz2 rfl (by decide) _ _ _ rfl (by exact HSA.out.alloc (.cells #[.string (b.extract 0 q)] 9)) ⟨wr.heap.size, 0, none⟩ 1 1 [.string (b.extract 0 q)] rfl rfl ?c1 ?c2 ?c3 ?c4 ?c5 ?_))
              try case c1 => exact cell_one_new _ _ _
              case c2 => simp [Value.oneCell']
              case c3 => unfold maxLen; omega
              case c4 => omega
              case c5 => first | exact hsz' | (simp; omega)
              intro va wa howna hgra _ hata
              have HA1 := Lib.hid howna
              have HA2 := Lib.hid (HHO.out.alloc (.cells #[.string (b.extract 0 q)] 9) |>.kept hgra (disj_kept HDJ.out))
              have HA3 := Lib.hid (Below.grown (HB.out.alloc hsz' (.cells #[.string (b.extract 0 q)] 9)) hgra (by simp; omega) (fun k hk => (HSA.out.lt k hk).1))
              have HA4 := Lib.hid (disj_next hata (by first | (simp; done) | (simp; omega) | omega) HDJ.out HHO.out)
              have hsa : w1.heap.size ≤ wa.heap.size := HA3.out.size
              clear howna hgra hata
              go_wp2_with (first | (at_builtin; refine wpList_append_own_at _ rfl _ _ 28 rfl w1.heap.size 25 j0 (.int .i64 0) 1 8 Try.underlying28 hj hy0 hy1 hy2 rfl (by decide) _ _ _ rfl (by exact HA2.out.alloc (.cells #[.int .i64 0] 25)) ⟨wa.heap.size, 0, none⟩ 1 1 [.int .i64 0] rfl rfl ?c1 ?c2 ?c3 ?c4 ?c5 ?_))
              try case c1 => exact cell_one_new _ _ _
              case c2 => simp [Value.oneCell']
              case c3 => unfold maxLen; omega
              case c4 => omega
              case c5 => first | exact hsa | (simp; omega)
              intro vb wb hownb hgrb _ hatb
              have HB1 := Lib.hid hownb
              have HB2 := Lib.hid (HA1.out.alloc (.cells #[.int .i64 0] 25) |>.kept hgrb (disj_kept' HA4.out))
              have HB3 := Lib.hid (Below.grown (HA3.out.alloc hsa (.cells #[.int .i64 0] 25)) hgrb (by simp; omega) (fun k hk => (HA2.out.lt k hk).1))
              have HB4 := Lib.hid (disj_next' hatb (by first | (simp; done) | (simp; omega) | omega) HA4.out HA1.out)
              clear hownb hgrb hatb
              go_wp2
              go_roundw
              case rel => exact ⟨k + 1, v, X ++ [said L], Y ++ [0], by omega, by go_num, rfl, hv, by rw [strs_snoc, ← HSAY.out]; exact HB2.out, by rw [errs_snoc]; exact HB1.out, HB4.out, HB3.out, by rw [HL.out, look_some HT.out]; rw [HSV.out, if_pos HC.out]⟩
              case measure => first | (simp [intOf]; done) | (simp [intOf]; omega)
            · have hcmp : ((S : Int) != (v : Int)) = true := by rw [bne_iff_ne]; omega
              have HC := Lib.hid hSv
              clear hSv
              go_wp2_with fail
              ((with_reducible refine (hnum _).mono ?_); rintro e w' ⟨rfl, md, rfl⟩)
              go_wp2_with fail
              ((with_reducible refine (hsum _).mono ?_); rintro e w' ⟨rfl, md2, rfl⟩)
              have HSA := Lib.hid (own_drew HSA.out (md + md2))
              have HHO := Lib.hid (own_drew HHO.out (md + md2))
              have HB := Lib.hid (below_drw HB.out (md + md2))
              go_wp2_with (first | (at_builtin; refine wpList_append_own_at _ rfl _ _ 22 rfl w1.heap.size 9 i0 (.string .empty) 1 16 Try.underlying22 hi hz0 hz1 hz2 rfl (by decide) _ _ _ rfl (by exact HSA.out.alloc (.cells #[.string (b.extract 0 q)] 9)) ⟨wr.heap.size, 0, none⟩ 1 1 [.string (b.extract 0 q)] rfl rfl ?c1 ?c2 ?c3 ?c4 ?c5 ?_))
              try case c1 => exact cell_one_new _ _ _
              case c2 => simp [Value.oneCell']
              case c3 => unfold maxLen; omega
              case c4 => omega
              case c5 => first | exact hsz' | (simp; omega)
              intro va wa howna hgra _ hata
              have HA1 := Lib.hid howna
              have HA2 := Lib.hid (HHO.out.alloc (.cells #[.string (b.extract 0 q)] 9) |>.kept hgra (disj_kept HDJ.out))
              have HA3 := Lib.hid (Below.grown (HB.out.alloc hsz' (.cells #[.string (b.extract 0 q)] 9)) hgra (by simp; omega) (fun k hk => (HSA.out.lt k hk).1))
              have HA4 := Lib.hid (disj_next hata (by first | (simp; done) | (simp; omega) | omega) HDJ.out HHO.out)
              have hsa : w1.heap.size ≤ wa.heap.size := HA3.out.size
              clear howna hgra hata
              go_wp2_with (first | (at_builtin; refine wpList_append_own_at _ rfl _ _ 28 rfl w1.heap.size 25 j0 (.int .i64 0) 1 8 Try.underlying28 hj hy0 hy1 hy2 rfl (by decide) _ _ _ rfl (by exact HA2.out.alloc (.cells #[.int .i64 230] 25)) ⟨wa.heap.size, 0, none⟩ 1 1 [.int .i64 230] rfl rfl ?c1 ?c2 ?c3 ?c4 ?c5 ?_))
              try case c1 => exact cell_one_new _ _ _
              case c2 => simp [Value.oneCell']
              case c3 => unfold maxLen; omega
              case c4 => omega
              case c5 => first | exact hsa | (simp; omega)
              intro vb wb hownb hgrb _ hatb
              have HB1 := Lib.hid hownb
              have HB2 := Lib.hid (HA1.out.alloc (.cells #[.int .i64 230] 25) |>.kept hgrb (disj_kept' HA4.out))
              have HB3 := Lib.hid (Below.grown (HA3.out.alloc hsa (.cells #[.int .i64 230] 25)) hgrb (by simp; omega) (fun k hk => (HA2.out.lt k hk).1))
              have HB4 := Lib.hid (disj_next' hatb (by first | (simp; done) | (simp; omega) | omega) HA4.out HA1.out)
              clear hownb hgrb hatb
              go_wp2
              go_roundw
              case rel => exact ⟨k + 1, v, X ++ [said L], Y ++ [230], by omega, by go_num, rfl, hv, by rw [strs_snoc, ← HSAY.out]; exact HB2.out, by rw [errs_snoc]; exact HB1.out, HB4.out, HB3.out, by rw [HL.out, look_some HT.out]; rw [HSV.out, if_neg HC.out]⟩
              case measure => first | (simp [intOf]; done) | (simp [intOf]; omega)
        · have HT := Lib.hid (told_none1 hq h32)
          have hne : ((bL b q : Int) == 32) = false := by
            rw [beq_eq_false_iff_ne, hbv]
            intro e
            exact h32 (UInt8.toNat_inj.1 (by rw [show (32 : UInt8).toNat = 32 from rfl]; omega))
          clear hbv h32
          obtain ⟨z, hz⟩ : ∃ z, bL b q = z := ⟨_, rfl⟩
          rw [hz] at hbt hne
          clear hz
          have HSA := Lib.hid (own_drew HSA.out (0))
          have HHO := Lib.hid (own_drew HHO.out (0))
          have HB := Lib.hid (below_drw HB.out (0))
          go_wp2_with (first | (at_builtin; refine wpList_append_own_at _ rfl _ _ 22 rfl w1.heap.size 9 i0 (.string .empty) 1 16 Try.underlying22 hi hz0 hz1 hz2 rfl (by decide) _ _ _ rfl (by exact HSA.out.alloc (.cells #[.string ⟨#[]⟩] 9)) ⟨wr.heap.size, 0, none⟩ 1 1 [.string ⟨#[]⟩] rfl rfl ?c1 ?c2 ?c3 ?c4 ?c5 ?_))
          try case c1 => exact cell_one_new _ _ _
          case c2 => simp [Value.oneCell']
          case c3 => unfold maxLen; omega
          case c4 => omega
          case c5 => first | exact hsz' | (simp; omega)
          intro va wa howna hgra _ hata
          have HA1 := Lib.hid howna
          have HA2 := Lib.hid (HHO.out.alloc (.cells #[.string ⟨#[]⟩] 9) |>.kept hgra (disj_kept HDJ.out))
          have HA3 := Lib.hid (Below.grown (HB.out.alloc hsz' (.cells #[.string ⟨#[]⟩] 9)) hgra (by simp; omega) (fun k hk => (HSA.out.lt k hk).1))
          have HA4 := Lib.hid (disj_next hata (by first | (simp; done) | (simp; omega) | omega) HDJ.out HHO.out)
          have hsa : w1.heap.size ≤ wa.heap.size := HA3.out.size
          clear howna hgra hata
          go_wp2_with (first | (at_builtin; refine wpList_append_own_at _ rfl _ _ 28 rfl w1.heap.size 25 j0 (.int .i64 0) 1 8 Try.underlying28 hj hy0 hy1 hy2 rfl (by decide) _ _ _ rfl (by exact HA2.out.alloc (.cells #[.int .i64 90] 25)) ⟨wa.heap.size, 0, none⟩ 1 1 [.int .i64 90] rfl rfl ?c1 ?c2 ?c3 ?c4 ?c5 ?_))
          try case c1 => exact cell_one_new _ _ _
          case c2 => simp [Value.oneCell']
          case c3 => unfold maxLen; omega
          case c4 => omega
          case c5 => first | exact hsa | (simp; omega)
          intro vb wb hownb hgrb _ hatb
          have HB1 := Lib.hid hownb
          have HB2 := Lib.hid (HA1.out.alloc (.cells #[.int .i64 90] 25) |>.kept hgrb (disj_kept' HA4.out))
          have HB3 := Lib.hid (Below.grown (HA3.out.alloc hsa (.cells #[.int .i64 90] 25)) hgrb (by simp; omega) (fun k hk => (HA2.out.lt k hk).1))
          have HB4 := Lib.hid (disj_next' hatb (by first | (simp; done) | (simp; omega) | omega) HA4.out HA1.out)
          clear hownb hgrb hatb
          go_wp2
          go_roundw
          case rel => exact ⟨k + 1, 0, X ++ [[]], Y ++ [90], by omega, by go_num, rfl, by omega, by rw [strs_snoc]; exact HB2.out, by rw [errs_snoc]; exact HB1.out, HB4.out, HB3.out, by rw [HL.out, look_none HT.out]⟩
          case measure => first | (simp [intOf]; done) | (simp [intOf]; omega)
      · have HT := Lib.hid (told_short h9)
        have hl9 : decide ((0 : Int) ≤ (L.length : Int) - 9) = false := by rw [decide_eq_false_iff_not]; omega
        have hl9b : decide ((9 : Int) ≤ (L.length : Int)) = false := by rw [decide_eq_false_iff_not]; omega
        have hl9c : L.length < 9 := by omega
        clear h9
        have HSA := Lib.hid (own_drew HSA.out (0))
        have HHO := Lib.hid (own_drew HHO.out (0))
        have HB := Lib.hid (below_drw HB.out (0))
        go_wp2_with (first | (at_builtin; refine wpList_append_own_at _ rfl _ _ 22 rfl w1.heap.size 9 i0 (.string .empty) 1 16 Try.underlying22 hi hz0 hz1 hz2 rfl (by decide) _ _ _ rfl (by exact HSA.out.alloc (.cells #[.string ⟨#[]⟩] 9)) ⟨wr.heap.size, 0, none⟩ 1 1 [.string ⟨#[]⟩] rfl rfl ?c1 ?c2 ?c3 ?c4 ?c5 ?_))
        try case c1 => exact cell_one_new _ _ _
        case c2 => simp [Value.oneCell']
        case c3 => unfold maxLen; omega
        case c4 => omega
        case c5 => first | exact hsz' | (simp; omega)
        intro va wa howna hgra _ hata
        have HA1 := Lib.hid howna
        have HA2 := Lib.hid (HHO.out.alloc (.cells #[.string ⟨#[]⟩] 9) |>.kept hgra (disj_kept HDJ.out))
        have HA3 := Lib.hid (Below.grown (HB.out.alloc hsz' (.cells #[.string ⟨#[]⟩] 9)) hgra (by simp; omega) (fun k hk => (HSA.out.lt k hk).1))
        have HA4 := Lib.hid (disj_next hata (by first | (simp; done) | (simp; omega) | omega) HDJ.out HHO.out)
        have hsa : w1.heap.size ≤ wa.heap.size := HA3.out.size
        clear howna hgra hata
        go_wp2_with (first | (at_builtin; refine wpList_append_own_at _ rfl _ _ 28 rfl w1.heap.size 25 j0 (.int .i64 0) 1 8 Try.underlying28 hj hy0 hy1 hy2 rfl (by decide) _ _ _ rfl (by exact HA2.out.alloc (.cells #[.int .i64 90] 25)) ⟨wa.heap.size, 0, none⟩ 1 1 [.int .i64 90] rfl rfl ?c1 ?c2 ?c3 ?c4 ?c5 ?_))
        try case c1 => exact cell_one_new _ _ _
        case c2 => simp [Value.oneCell']
        case c3 => unfold maxLen; omega
        case c4 => omega
        case c5 => first | exact hsa | (simp; omega)
        intro vb wb hownb hgrb _ hatb
        have HB1 := Lib.hid hownb
        have HB2 := Lib.hid (HA1.out.alloc (.cells #[.int .i64 90] 25) |>.kept hgrb (disj_kept' HA4.out))
        have HB3 := Lib.hid (Below.grown (HA3.out.alloc hsa (.cells #[.int .i64 90] 25)) hgrb (by simp; omega) (fun k hk => (HA2.out.lt k hk).1))
        have HB4 := Lib.hid (disj_next' hatb (by first | (simp; done) | (simp; omega) | omega) HA4.out HA1.out)
        clear hownb hgrb hatb
        go_wp2
        go_roundw
        case rel => exact ⟨k + 1, 0, X ++ [[]], Y ++ [90], by omega, by go_num, rfl, by omega, by rw [strs_snoc]; exact HB2.out, by rw [errs_snoc]; exact HB1.out, HB4.out, HB3.out, by rw [HL.out, look_none HT.out]⟩
        case measure => first | (simp [intOf]; done) | (simp [intOf]; omega)
    · have hkl : k = lines.length := by omega
      have hfin := HL.out
      rw [hkl, List.drop_length] at hfin
      have hX : X = (lookL 0 lines).1 := by rw [hfin]; simp [lookL]
      have hY : Y = (lookL 0 lines).2 := by rw [hfin]; simp [lookL]
      have r1 := HSA.out
      have r2 := HHO.out
      rw [hkl, hX] at r1
      rw [hkl, hY] at r2
      obtain ⟨n1, n2⟩ := lookL_length 0 lines
      rw [← n1] at r1
      rw [← n2] at r2
      have R1 := Lib.hid r1
      have R2 := Lib.hid r2
      clear hfin hX hY r1 r2 n1 n2
      subst hkl
      go_wp2
      go_ret3
      exact ⟨_, _, rfl, own_low R1.out HB0.out.size, own_low R2.out HB0.out.size, HB0.out.trans (HB.out.mono HB0.out.size)⟩
end Go.Proofs.Ytjfnkdgkkoffeaa
