/- Walks: where a list begins; a list turned. Conditions: lists of at most 2^47 bytes. -/
import Derived.Test.YtlegkefonpiakaaV4
import Derived.Test.YtlegkefonpiakaaU6
namespace Go.Proofs.Ytlegkefonpiakaa
open Go.RowKit

theorem run_store_flt (a : Addr) (b : Nat) (m : Mode) (u : World) : (store a (.float .f64 b) m).run Try.prog u = stored Try.prog u a (.float .f64 b) m := run_store _ _ _ _ _ rfl

def startN (k n : Nat) : Nat := if n = 0 then 0 else k % n
theorem start_any (k n : Nat) (hk : k < 18446744073709551616) (hn : n < 9223372036854775808) (w : World) :
    Calls Try.prog 19 #[.int .u64 k, .int .i64 n] w fun e w' => e = .returned (.int .i64 (startN k n)) ∧ w = w' := by
  by_cases h0 : n = 0
  · subst h0
    have hs : startN k 0 = 0 := rfl
    rw [hs]
    clear hs
    go_enter Try.func19, Try.ntmps19
    go_wp2
    go_ret
    exact ⟨rfl, rfl⟩
  · have hs : startN k n = k % n := by unfold startN; rw [if_neg h0]
    rw [hs]
    have hlt : k % n < n := Nat.mod_lt _ (by omega)
    have hz : ((n : Int) == 0) = false := by rw [beq_eq_false_iff_ne]; omega
    clear hs h0
    go_enter Try.func19, Try.ntmps19
    go_wp2
    go_ret
    exact ⟨rfl, rfl⟩

set_option maxHeartbeats 4000000 in
theorem turned_any (src : Value) (l : List Nat) (at_ : Nat) (w : World) (hsrc : Came w w.heap.size src l) (hat : at_ < l.length ∨ l = [] ∧ at_ = 0) (hm : l.length ≤ 17592186043904) :
    Calls Try.prog 20 #[src, .int .i64 at_] w fun e w' => ∃ v, e = .returned v ∧ w'.ownsRow w.heap.size 23 1 v l.length (flts (turnL l at_)) ∧ Below w.heap.size w w' := by
  have HS := Lib.hid hsrc
  have HT := Lib.hid hat
  obtain ⟨i0, hi, hz0, hz1, hz2⟩ := info_parts Try.info23
  obtain ⟨A, ca, rfl⟩ := hsrc.form
  clear hsrc
  have hat2 : at_ ≤ 17592186043904 := by rcases hat with h | h <;> omega
  clear hat
  go_enter Try.func20, Try.ntmps20
  go_wp2
  go_loopw [5, 6] (fun vn vi wr => ∃ k : Nat, k ≤ l.length ∧ vi = .int .i64 k ∧ wr.ownsRow w.heap.size 23 1 vn k (flts (rotK l at_ k)) ∧ Below w.heap.size w wr) (fun _ vi _ => l.length - (intOf vi).toNat)
  case atStart => exact ⟨0, Nat.zero_le _, rfl, World.ownsRow_nil _ _ _ _, Below.refl _ _⟩
  case round =>
    obtain ⟨k, hk, rfl, hown, hbel⟩ := hrel
    have HB := Lib.hid hbel
    have HR := Lib.hid hown
    have hsz := hbel.size
    clear hown hbel
    by_cases hlt : k < l.length
    · have hmod : (k + at_) % l.length < l.length := Nat.mod_lt _ (by omega)
      obtain ⟨bl, ol, rfl, hcell⟩ := (HS.out.below HB.out).cell hmod
      have hnl := rotK_succ l at_ k
      have hfl : flts (rotK l at_ k) ++ [.float .f64 (l.getD ((k + at_) % l.length) 0)] = flts (rotK l at_ (k + 1)) := by rw [hnl]; simp [flts]
      obtain ⟨x, hx⟩ : ∃ x, l.getD ((k + at_) % l.length) 0 = x := ⟨_, rfl⟩
      rw [hx] at hcell hfl
      have HNL := Lib.hid hfl
      clear hx hfl hnl
      obtain ⟨q, hq⟩ : ∃ q, (k + at_) % l.length = q := ⟨_, rfl⟩
      have hrem : ((k : Int) + (at_ : Int)).tmod (l.length : Int) = (q : Int) := by
        rw [← hq]
        rw [show (k : Int) + (at_ : Int) = ((k + at_ : Nat) : Int) from by omega]
        rfl
      rw [hq] at hcell hmod
      clear hq
      have HO := Lib.hid (HR.out.alloc (.cells #[.float .f64 x] 23))
      have HP := Lib.hid (HB.out.alloc hsz (.cells #[.float .f64 x] 23))
      go_wp2_with (first | (at_builtin; refine wpList_append_own_at _ rfl _ _ 22 rfl w.heap.size 23 i0 (.float .f64 0) 1 8 Try.underlying22 hi hz0 hz1 hz2 rfl (by decide) _ _ _ rfl HO.out ⟨wr.heap.size, 0, none⟩ 1 1 [.float .f64 x] rfl rfl ?c1 ?c2 ?c3 ?c4 ?c5 ?_))
      case c1 => exact cell_one_new _ _ _
      case c2 => simp [Value.oneCell']
      case c3 => unfold maxLen; omega
      case c4 => omega
      case c5 => simp; omega
      intro v' wn hown hgr _ _
      rw [HNL.out] at hown
      have HQ := Lib.hid (HP.out.grown hgr (by simp; omega) (fun k hk => (HO.out.lt k hk).1))
      have HU := Lib.hid hown
      clear hown hgr
      go_wp2
      go_roundw
      case rel => exact ⟨k + 1, by omega, by go_num, HU.out, HQ.out⟩
      case measure => first | (simp [intOf]; done) | (simp [intOf]; omega)
    · have hkl : k = l.length := by omega
      have hrow := HR.out
      rw [hkl, rotK_all l at_ (by rcases HT.out with h | h; exact Or.inl h; exact Or.inr h.1)] at hrow
      have hbase : (l.drop at_ ++ l.take at_).length = l.length := by simp; omega
      have htl : swapL (l.drop at_ ++ l.take at_) = turnL l at_ := rfl
      obtain ⟨b, hb⟩ : ∃ b, l.drop at_ ++ l.take at_ = b := ⟨_, rfl⟩
      rw [hb] at hrow hbase htl
      have HBB := Lib.hid hbase
      have HTL := Lib.hid htl
      clear HR hb hbase htl HT
      obtain ⟨n, hn⟩ : ∃ n, l.length = n := ⟨_, rfl⟩
      rw [hn] at hrow HBB hkl
      have HNN := Lib.hid hn
      clear hn
      rcases hrow.2 with ⟨hv, h0⟩ | ⟨g, cap, cur, hv, hg, _⟩
      · subst hv
        have hn0 : n = 0 := h0
        have HR := Lib.hid hrow
        clear hrow h0
        subst hn0
        have hbn : b = [] := List.eq_nil_of_length_eq_zero HBB.out
        have ht0 : turnL l at_ = [] := by rw [← HTL.out, hbn]; rfl
        have HR2 : Hid (wr.ownsRow w.heap.size 23 1 (.slice none 0 0) 0 (flts (turnL l at_))) := Lib.hid (by rw [ht0]; exact World.ownsRow_nil _ _ _ _)
        clear hbn ht0
        go_wp2_with fail
        refine wp_loop_rounds 1 ?_
        rw [rounds_succ]
        go_wp2
        go_ret
        exact ⟨_, rfl, by rw [HNN.out]; exact HR2.out, HB.out⟩
      · subst hv
        have HR := Lib.hid hrow
        clear hrow
        have HB2 := Lib.hid (show w.heap.size ≤ g from hg)
        clear hg
        go_wp2_with fail
        go_loopw [7] (fun vi w2 => ∃ j i : Nat, i = 2 * j ∧ i ≤ n ∧ vi = .int .i64 i ∧ w2.ownsRow w.heap.size 23 1 (.slice (some ⟨g, 0, none⟩) n cap) n (flts (swK b j)) ∧ Below w.heap.size w w2) (fun vi _ => n - (intOf vi).toNat)
        case atStart => exact ⟨0, 0, rfl, Nat.zero_le _, rfl, HR.out, HB.out⟩
        case round =>
          obtain ⟨j, i, hij, hin, rfl, hown, hbel⟩ := hrel
          have HIJ := Lib.hid hij
          have HW2 := Lib.hid hown
          have HB3 := Lib.hid hbel
          clear hij hown hbel
          by_cases hlt : i + 1 < n
          · have HWd : Hid (wr.drew.ownsRow w.heap.size 23 1 (.slice (some ⟨g, 0, none⟩) n cap) n (flts (swK b j))) := Lib.hid HW2.out
            have HBd := Lib.hid HB3.out.drew
            have hlen : (swK b j).length = n := by rw [swK_length, HBB.out]
            have hget : ∀ q, q < n → (flts (swK b j))[q]? = some (.float .f64 ((swK b j).getD q 0)) := by
              intro q hq
              simp [flts, List.getD, List.getElem?_eq_getElem (show q < (swK b j).length from by omega)]
            have hc0 := HWd.out.cellAt i (by omega)
            have hc1 := HWd.out.cellAt (i + 1) (by omega)
            rw [hget i (by omega)] at hc0
            rw [hget (i + 1) hlt] at hc1
            have hf0 := HWd.out.frozenAt i
            have hf1 := HWd.out.frozenAt (i + 1)
            have hc0w : wr.cell? ⟨g, i, none⟩ = some (.float .f64 ((swK b j).getD i 0)) := hc0
            have hc1w : wr.cell? ⟨g, i + 1, none⟩ = some (.float .f64 ((swK b j).getD (i + 1) 0)) := hc1
            have hf0w : wr.frozen? ⟨g, i, none⟩ = false := hf0
            have hf1w : wr.frozen? ⟨g, i + 1, none⟩ = false := hf1
            have hsucc := swK_succ b j (by rw [HBB.out, ← HIJ.out]; exact hlt)
            rw [← HIJ.out] at hsucc
            obtain ⟨x, hx⟩ : ∃ x, (swK b j).getD i 0 = x := ⟨_, rfl⟩
            obtain ⟨y, hy⟩ : ∃ y, (swK b j).getD (i + 1) 0 = y := ⟨_, rfl⟩
            rw [hx] at hc0 hc0w hsucc
            rw [hy] at hc1 hc1w hsucc
            clear hx hy hget hlen
            have hfl : ((flts (swK b j)).set i (.float .f64 y)).set (i + 1) (.float .f64 x) = flts (swK b (j + 1)) := by
              rw [hsucc]; unfold flts; rw [List.map_set, List.map_set]
            obtain ⟨s1, g1⟩ := HWd.out.stored i (.float .f64 y)
            obtain ⟨s2, g2⟩ := s1.stored (i + 1) (.float .f64 x)
            rw [hfl] at s2
            have hf2 := s1.frozenAt (i + 1)
            have hc2 : (wr.drew.setCell ⟨g, i, none⟩ (.float .f64 y)).cell? ⟨g, i + 1, none⟩ = some (.float .f64 y) := by
              rw [World.cell?_setCell_other _ _ _ _ (by intro h; simp only [Addr.mk.injEq] at h; omega)]
              exact hc1
            have hrel2 := HBd.out.grown g1 HBd.out.size (fun k hk => by cases hk; exact HB2.out)
            have hrel3 := hrel2.grown g2 hrel2.size (fun k hk => by cases hk; exact HB2.out)
            have S2 := Lib.hid s2
            have R3 := Lib.hid hrel3
            clear s1 s2 g1 g2 hrel2 hrel3 hsucc hfl
            have hst := run_store_flt
            go_wp2
            go_region
            go_wp2
            go_roundw
            case rel => exact ⟨j + 1, i + 2, by have := HIJ.out; omega, by omega, by go_num, S2.out, R3.out⟩
            case measure => first | (simp [intOf]; done) | (simp [intOf]; omega)
          · have hend := swK_end b j (by rw [HBB.out]; have := HIJ.out; omega) (by rw [HBB.out]; have := HIJ.out; omega)
            have hrow2 := HW2.out
            rw [hend, HTL.out] at hrow2
            have HE := Lib.hid hrow2
            clear hend hrow2
            go_wp2
            go_ret
            exact ⟨_, rfl, by rw [HNN.out]; exact HE.out, HB3.out⟩
end Go.Proofs.Ytlegkefonpiakaa
