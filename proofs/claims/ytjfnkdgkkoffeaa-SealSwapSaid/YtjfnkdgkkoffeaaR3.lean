/- Walks: a text cut into lines. Conditions: at most 65536 letters. -/
import Derived.Test.YtjfnkdgkkoffeaaR2
import Derived.Maps.AppendAt
namespace Go.Proofs.Ytjfnkdgkkoffeaa
open Go.RowKit SealLaw

def strs (l : List Bytes) : List Value := l.map fun b => .string ⟨b.toArray⟩
theorem Try.info9 : (Try.prog.info? 9).map (fun i => (i.zero, i.size, i.bytes)) = some (some (.string .empty), 1, 16) := by kernel_rfl
theorem cutL_snoc (c : UInt8) : ∀ t : Bytes, cutL (t ++ [c]) = if c = 10 then ((cutL t).1 ++ [(cutL t).2], []) else ((cutL t).1, (cutL t).2 ++ [c])
  | [] => by by_cases h : c = 10 <;> simp [cutL, h]
  | d :: t => by
    have ih := cutL_snoc c t
    show cutL (d :: (t ++ [c])) = _
    by_cases h : c = 10
    · rw [if_pos h] at ih ⊢
      by_cases hd : d = 10
      · simp [cutL, ih, hd]
      · unfold cutL
        rw [if_neg hd, if_neg hd, ih]
        cases hc : (cutL t).1 with
        | nil => simp
        | cons l ls => simp
    · rw [if_neg h] at ih ⊢
      by_cases hd : d = 10
      · simp [cutL, ih, hd]
      · unfold cutL
        rw [if_neg hd, if_neg hd, ih]
        cases hc : (cutL t).1 with
        | nil => simp
        | cons l ls => simp
theorem cut_count : ∀ t : Bytes, (cutL t).1.length ≤ t.length
  | [] => Nat.le_refl _
  | c :: t => by
    have ih := cut_count t
    unfold cutL
    by_cases h : c = 10
    · rw [if_pos h]; simp; exact ih
    · rw [if_neg h]
      cases hc : (cutL t).1 with
      | nil => simp
      | cons l ls => rw [hc] at ih; simp at ih ⊢; omega
theorem take_snoc {s : ByteArray} {k : Nat} (h : k < s.size) : s.data.toList.take (k + 1) = s.data.toList.take k ++ [s.data.toList.getD k 0] := by
  have h' : k < s.data.toList.length := by simpa using h
  rw [List.take_succ_eq_append_getElem h', List.getD_eq_getElem?_getD, List.getElem?_eq_getElem h']; rfl
theorem extract_eq (s : ByteArray) (a b : Nat) : s.extract a b = ⟨((s.data.toList.take b).drop a).toArray⟩ := by
  apply ByteArray.ext
  rw [ByteArray.data_extract]
  apply Array.ext'
  rw [Array.toList_extract]
  simp [List.extract, List.drop_take]
theorem ret_vb {v : Value} {a b : Bool} (h : a = b) : Ending.returned (.tuple #[v, .bool a]) = .returned (.tuple #[v, .bool b]) := by rw [h]
theorem cut_ten {s : ByteArray} {k fr : Nat} (hq : (cutL (s.data.toList.take k)).2 = (s.data.toList.take k).drop fr) (hc : s.data.toList.getD k 0 = 10) (hs : s.data.toList.take (k + 1) = s.data.toList.take k ++ [s.data.toList.getD k 0]) :
    strs (cutL (s.data.toList.take k)).1 ++ [.string (s.extract fr k)] = strs (cutL (s.data.toList.take (k + 1))).1 ∧ (cutL (s.data.toList.take k)).1.length + 1 = (cutL (s.data.toList.take (k + 1))).1.length ∧ (cutL (s.data.toList.take (k + 1))).2 = (s.data.toList.take (k + 1)).drop (k + 1) := by
  rw [hs, cutL_snoc, if_pos hc, hq, extract_eq]
  refine ⟨by simp [strs], by simp, ?_⟩
  rw [← hs]
  simp
theorem cut_other {s : ByteArray} {k fr : Nat} (hq : (cutL (s.data.toList.take k)).2 = (s.data.toList.take k).drop fr) (hc : s.data.toList.getD k 0 ≠ 10) (hs : s.data.toList.take (k + 1) = s.data.toList.take k ++ [s.data.toList.getD k 0]) (hl : fr ≤ (s.data.toList.take k).length) :
    (cutL (s.data.toList.take (k + 1))).1 = (cutL (s.data.toList.take k)).1 ∧ (cutL (s.data.toList.take (k + 1))).2 = (s.data.toList.take (k + 1)).drop fr := by
  rw [hs, cutL_snoc, if_neg hc, hq]
  exact ⟨rfl, (List.drop_append_of_le_length hl).symm⟩

set_option maxHeartbeats 4000000 in
theorem cut_any (s : ByteArray) (hs : s.size ≤ 65536) (w : World) :
    Calls Try.prog 17 #[.string s] w fun e w' => ∃ v, e = .returned (.tuple #[v, .bool (decide ((cutL s.data.toList).2 = []))]) ∧ w'.ownsRow w.heap.size 9 1 v (cutL s.data.toList).1.length (strs (cutL s.data.toList).1) ∧ Below w.heap.size w w' := by
  obtain ⟨i0, hi, hz0, hz1, hz2⟩ := info_parts Try.info9
  go_enter Try.func17, Try.ntmps17
  go_wp2
  go_loopw [4, 5, 9] (fun vo vf vi wr => ∃ k fr : Nat, k ≤ s.size ∧ fr ≤ k ∧ vi = .int .i64 k ∧ vf = .int .i64 fr ∧ (cutL (s.data.toList.take k)).2 = (s.data.toList.take k).drop fr ∧ wr.ownsRow w.heap.size 9 1 vo (cutL (s.data.toList.take k)).1.length (strs (cutL (s.data.toList.take k)).1) ∧ Below w.heap.size w wr) (fun _ _ vi _ => s.size - (intOf vi).toNat)
  case atStart => exact ⟨0, 0, Nat.zero_le _, Nat.le_refl _, rfl, rfl, rfl, World.ownsRow_nil _ _ _ _, Below.refl _ _⟩
  case round =>
    obtain ⟨k, fr, hk, hfk, rfl, rfl, hrest, hown, hbel⟩ := hrel
    have HB := Lib.hid hbel
    have HR := Lib.hid hown
    have HQ := Lib.hid hrest
    have hsz := hbel.size
    have hlen := cut_count (s.data.toList.take k)
    have hlk : (s.data.toList.take k).length = k := by rw [List.length_take]; exact Nat.min_eq_left (by simpa using hk)
    rw [hlk] at hlen
    clear hown hbel hrest hlk
    by_cases h : k < s.size
    · have hsn := take_snoc h
      have HS := Lib.hid hsn
      have hbl := bL_at s k
      have hbd : Hid (bL s k = (s.data.toList.getD k 0).toNat) := Lib.hid rfl
      obtain ⟨y, hy⟩ : ∃ y, bL s k = y := ⟨_, rfl⟩
      rw [hy] at hbl hbd
      have hyl : y < 256 := by rw [← hy]; exact bL_lt s k
      clear hsn hy
      by_cases h1 : y = 10
      · subst h1
        have hc10 : s.data.toList.getD k 0 = 10 := by
          have := hbd.out
          exact UInt8.toNat_inj.1 this.symm
        have HC := Lib.hid hc10
        clear hc10 hbd
        have HO := Lib.hid (HR.out.alloc (.cells #[.string (s.extract fr k)] 9))
        have HP := Lib.hid (HB.out.alloc hsz (.cells #[.string (s.extract fr k)] 9))
        go_wp2_with (first | (at_builtin; refine wpList_append_own_at _ rfl _ _ 22 rfl w.heap.size 9 i0 (.string .empty) 1 16 Try.underlying22 hi hz0 hz1 hz2 rfl (by decide) _ _ _ rfl HO.out ⟨wr.heap.size, 0, none⟩ 1 1 [.string (s.extract fr k)] rfl rfl ?c1 ?c2 ?c3 ?c4 ?c5 ?_))
        case c1 => exact cell_one_new _ _ _
        case c2 => simp [Value.oneCell']
        case c3 => unfold maxLen; omega
        case c4 => omega
        case c5 => first | (simp; omega) | omega
        intro v' wn hown hgr _ _
        have hlist := cut_ten HQ.out HC.out HS.out
        have HQ2 := Lib.hid (HP.out.grown hgr (by simp; omega) (fun k hk => (HO.out.lt k hk).1))
        rw [hlist.1, hlist.2.1] at hown
        have HU := Lib.hid hown
        have HV := Lib.hid hlist.2.2
        clear hown hgr hlist
        go_wp2
        go_roundw
        case rel => exact ⟨k + 1, k + 1, by omega, Nat.le_refl _, by go_num, by go_num, HV.out, HU.out, HQ2.out⟩
        case measure => first | (simp [intOf]; done) | (simp [intOf]; omega)
      · have hne : s.data.toList.getD k 0 ≠ 10 := by
          intro e
          apply h1
          rw [hbd.out, e]; rfl
        have hy10 : ((y : Int) == 10) = false := by rw [beq_eq_false_iff_ne]; omega
        have hlist := cut_other HQ.out hne HS.out (by rw [List.length_take]; simp; omega)
        have HU := Lib.hid (show wr.ownsRow w.heap.size 9 1 _ _ _ from by have := HR.out; rw [← hlist.1] at this; exact this)
        have HV := Lib.hid hlist.2
        clear hlist hne
        go_wp2
        go_roundw
        case rel => exact ⟨k + 1, fr, by omega, by omega, by go_num, rfl, HV.out, HU.out, HB.out⟩
        case measure => first | (simp [intOf]; done) | (simp [intOf]; omega)
    · have hkl : k = s.size := by omega
      have hta := take_all s
      have hr := HR.out
      rw [hkl, hta] at hr
      have HRR := Lib.hid hr
      have hq := HQ.out
      rw [hkl, hta] at hq
      have hdec : ((fr : Int) == (s.size : Int)) = decide ((cutL s.data.toList).2 = []) := by
        rw [hq, Bool.eq_iff_iff, beq_iff_eq, decide_eq_true_iff, List.drop_eq_nil_iff]
        have : s.data.toList.length = s.size := by simp
        omega
      have HD := Lib.hid hdec
      clear hr hq hdec hta HR HQ hlen
      subst hkl
      go_wp2
      go_ret2
      exact ⟨_, ret_vb HD.out, HRR.out, HB.out⟩

set_option maxHeartbeats 4000000 in
theorem refCut_any (s : ByteArray) (hs : s.size ≤ 65536) (w : World) :
    Calls Try.prog 19 #[.string s] w fun e w' => ∃ v, e = .returned (.tuple #[v, .bool (decide ((cutL s.data.toList).2 = []))]) ∧ w'.ownsRow w.heap.size 9 1 v (cutL s.data.toList).1.length (strs (cutL s.data.toList).1) ∧ Below w.heap.size w w' := by
  obtain ⟨i0, hi, hz0, hz1, hz2⟩ := info_parts Try.info9
  go_enter Try.func19, Try.ntmps19
  go_wp2
  go_loopw [4, 5, 6] (fun vo vf vi wr => ∃ k fr : Nat, k ≤ s.size ∧ fr ≤ k ∧ vi = .int .i64 k ∧ vf = .int .i64 fr ∧ (cutL (s.data.toList.take k)).2 = (s.data.toList.take k).drop fr ∧ wr.ownsRow w.heap.size 9 1 vo (cutL (s.data.toList.take k)).1.length (strs (cutL (s.data.toList.take k)).1) ∧ Below w.heap.size w wr) (fun _ _ vi _ => s.size - (intOf vi).toNat)
  case atStart => exact ⟨0, 0, Nat.zero_le _, Nat.le_refl _, rfl, rfl, rfl, World.ownsRow_nil _ _ _ _, Below.refl _ _⟩
  case round =>
    obtain ⟨k, fr, hk, hfk, rfl, rfl, hrest, hown, hbel⟩ := hrel
    have HB := Lib.hid hbel
    have HR := Lib.hid hown
    have HQ := Lib.hid hrest
    have hsz := hbel.size
    have hlen := cut_count (s.data.toList.take k)
    have hlk : (s.data.toList.take k).length = k := by rw [List.length_take]; exact Nat.min_eq_left (by simpa using hk)
    rw [hlk] at hlen
    clear hown hbel hrest hlk
    by_cases h : k < s.size
    · have hsn := take_snoc h
      have HS := Lib.hid hsn
      have hbl := bL_at s k
      have hbd : Hid (bL s k = (s.data.toList.getD k 0).toNat) := Lib.hid rfl
      obtain ⟨y, hy⟩ : ∃ y, bL s k = y := ⟨_, rfl⟩
      rw [hy] at hbl hbd
      have hyl : y < 256 := by rw [← hy]; exact bL_lt s k
      clear hsn hy
      by_cases h1 : y = 10
      · subst h1
        have hc10 : s.data.toList.getD k 0 = 10 := by
          have := hbd.out
          exact UInt8.toNat_inj.1 this.symm
        have HC := Lib.hid hc10
        clear hc10 hbd
        have HO := Lib.hid (HR.out.alloc (.cells #[.string (s.extract fr k)] 9))
        have HP := Lib.hid (HB.out.alloc hsz (.cells #[.string (s.extract fr k)] 9))
        go_wp2_with (first | (at_builtin; refine wpList_append_own_at _ rfl _ _ 22 rfl w.heap.size 9 i0 (.string .empty) 1 16 Try.underlying22 hi hz0 hz1 hz2 rfl (by decide) _ _ _ rfl HO.out ⟨wr.heap.size, 0, none⟩ 1 1 [.string (s.extract fr k)] rfl rfl ?c1 ?c2 ?c3 ?c4 ?c5 ?_))
        case c1 => exact cell_one_new _ _ _
        case c2 => simp [Value.oneCell']
        case c3 => unfold maxLen; omega
        case c4 => omega
        case c5 => first | (simp; omega) | omega
        intro v' wn hown hgr _ _
        have hlist := cut_ten HQ.out HC.out HS.out
        have HQ2 := Lib.hid (HP.out.grown hgr (by simp; omega) (fun k hk => (HO.out.lt k hk).1))
        rw [hlist.1, hlist.2.1] at hown
        have HU := Lib.hid hown
        have HV := Lib.hid hlist.2.2
        clear hown hgr hlist
        go_wp2
        go_roundw
        case rel => exact ⟨k + 1, k + 1, by omega, Nat.le_refl _, by go_num, by go_num, HV.out, HU.out, HQ2.out⟩
        case measure => first | (simp [intOf]; done) | (simp [intOf]; omega)
      · have hne : s.data.toList.getD k 0 ≠ 10 := by
          intro e
          apply h1
          rw [hbd.out, e]; rfl
        have hy10 : ((y : Int) == 10) = false := by rw [beq_eq_false_iff_ne]; omega
        have hlist := cut_other HQ.out hne HS.out (by rw [List.length_take]; simp; omega)
        have HU := Lib.hid (show wr.ownsRow w.heap.size 9 1 _ _ _ from by have := HR.out; rw [← hlist.1] at this; exact this)
        have HV := Lib.hid hlist.2
        clear hlist hne
        go_wp2
        go_roundw
        case rel => exact ⟨k + 1, fr, by omega, by omega, by go_num, rfl, HV.out, HU.out, HB.out⟩
        case measure => first | (simp [intOf]; done) | (simp [intOf]; omega)
    · have hkl : k = s.size := by omega
      have hta := take_all s
      have hr := HR.out
      rw [hkl, hta] at hr
      have HRR := Lib.hid hr
      have hq := HQ.out
      rw [hkl, hta] at hq
      have hdec : ((fr : Int) == (s.size : Int)) = decide ((cutL s.data.toList).2 = []) := by
        rw [hq, Bool.eq_iff_iff, beq_iff_eq, decide_eq_true_iff, List.drop_eq_nil_iff]
        have : s.data.toList.length = s.size := by simp
        omega
      have HD := Lib.hid hdec
      clear hr hq hdec hta HR HQ hlen
      subst hkl
      go_wp2
      go_ret2
      exact ⟨_, ret_vb HD.out, HRR.out, HB.out⟩
end Go.Proofs.Ytjfnkdgkkoffeaa
