/- Walks: the roomy copy; two lists held together; the copy looked at behind. Conditions: a list that came in. -/
import Derived.Test.YtlegkefonpiakaaK19
namespace Go.Proofs.Ytlegkefonpiakaa
open Go.RowKit

def mk1 : Nat := 4619848792751996928
def mk2 : Nat := 13838435755002691584
/-- a copy with two marks behind it, in a block of its own -/
def Room (w : World) (base : Nat) (v : Value) (l : List Nat) : Prop :=
  ∃ g cap, v = .slice (some ⟨g, 0, none⟩) l.length cap ∧ l.length + 2 ≤ cap ∧ base ≤ g ∧ g < w.heap.size ∧ Lies w g 0 (l ++ [mk1, mk2])
theorem Lies.left {w : World} {b off : Nat} {l m : List Nat} (h : Lies w b off (l ++ m)) : Lies w b off l := by
  intro i hi
  rw [h i (by simp; omega)]
  simp [List.getD, List.getElem?_append_left hi]
theorem Room.lies {w : World} {base : Nat} {v : Value} {l : List Nat} (h : Room w base v l) : LiesV w w.heap.size v l := by
  obtain ⟨g, cap, rfl, _, _, hg, hl⟩ := h
  exact ⟨_, cap, rfl, Or.inr ⟨g, 0, rfl, hg, hl.left⟩⟩
theorem Room.below {w wr : World} {base : Nat} {v : Value} {l : List Nat} (h : Room w base v l) (hb : Below w.heap.size w wr) : Room wr base v l := by
  obtain ⟨g, cap, h1, h2, h3, h4, h5⟩ := h
  exact ⟨g, cap, h1, h2, h3, Nat.lt_of_lt_of_le h4 hb.size, h5.below hb h4⟩

set_option maxHeartbeats 1000000 in
theorem roomy_any (v : Value) (l : List Nat) (w : World) (h : Came w w.heap.size v l) (hm : l.length ≤ 17592186043904) :
    Calls Try.prog 13 #[v] w fun e w' => (∃ v', e = .returned v' ∧ Room w' w.heap.size v' l) ∧ Below w.heap.size w w' := by
  obtain ⟨A, cap, rfl⟩ := h.form
  have HS := Lib.hid h
  have HC1 := Lib.hid (h.below ((Below.refl w.heap.size w).alloc (Nat.le_refl _) (.cells #[] 23)))
  have HE1 := Lib.hid (own_empty w w.heap.size (Nat.le_refl _))
  have HB1 := Lib.hid ((Below.refl w.heap.size w).alloc (Nat.le_refl _) (.cells #[] 23))
  obtain ⟨i0, hi, hz0, hz1, hz2⟩ := info_parts Try.info23
  clear h
  go_enter Try.func13, Try.ntmps13
  go_wp2_with (first | (at_builtin; refine wpList_append_src rfl _ _ rfl w.heap.size 0 _ [] rfl HE1.out w.heap.size _ l rfl HC1.out ?c1 ?c2 ?_))
  case c1 => omega
  case c2 => simp
  intro va wa hown hgr _
  have HO1 := Lib.hid (hown.alloc (.cells #[.float .f64 mk1, .float .f64 mk2] 23))
  have HA1 := Lib.hid (HB1.out.grown hgr (by simp) (by intro k hk; simp [Value.ownBlock] at hk; omega))
  have hsa : w.heap.size ≤ wa.heap.size := HA1.out.size
  have HP1 := Lib.hid (HA1.out.alloc hsa (.cells #[.float .f64 mk1, .float .f64 mk2] 23))
  clear hown hgr
  go_wp2_with (first | (at_builtin; refine wpList_append_own_at _ rfl _ _ 22 rfl w.heap.size 23 i0 (.float .f64 0) 1 8 Try.underlying22 hi hz0 hz1 hz2 rfl (by decide) _ _ _ rfl HO1.out ⟨wa.heap.size, 0, none⟩ 2 2 [.float .f64 mk1, .float .f64 mk2] rfl rfl ?c1 ?c2 ?c3 ?c4 ?c5 ?_))
  case c1 => exact cell_two_new _ _ _ _
  case c2 => simp [Value.oneCell']
  case c3 => unfold maxLen; omega
  case c4 => omega
  case c5 => simp; omega
  intro vb wb hown hgr _ _
  have hlist : flts l ++ [.float .f64 mk1, .float .f64 mk2] = flts (l ++ [mk1, mk2]) := by simp [flts]
  have hQ := HP1.out.grown hgr (by simp; omega) (fun k hk => (HO1.out.lt k hk).1)
  rw [hlist] at hown
  have hown2 := hown
  rcases hown.2 with ⟨_, h0⟩ | ⟨g, cap2, cur, rfl, hbg, hgw, hnc, hcm, _⟩
  · omega
  · have hl := (lies_of_owns hown2).1
    have hlt : g < wb.heap.size := by
      rcases Nat.lt_or_ge g wb.heap.size with h' | h'
      · exact h'
      · rw [Array.getElem?_eq_none h'] at hgw; cases hgw
    have HR : Hid (Room wb w.heap.size (.slice (some ⟨g, 0, none⟩) l.length cap2) l) := Lib.hid ⟨g, cap2, rfl, by omega, hbg, hlt, hl⟩
    have HQ := Lib.hid hQ
    have hc1 : ((l.length : Nat) : Int) ≤ (cap2 : Int) := by omega
    clear hown hown2 hgr hlist hQ hbg hgw hnc hcm hl hlt
    go_wp2
    go_ret
    exact ⟨⟨_, rfl, HR.out⟩, HQ.out⟩

theorem same_q (x : Nat) (w : World) : Calls Try.prog 21 #[.float .f64 x, .float .f64 x] w fun e w' => e = .returned (.bool true) ∧ w' = w :=
  (same_any x x w).mono fun _ _ ⟨h1, h2⟩ => ⟨by rw [h1, same_self], h2.symm⟩

theorem sameList_any (g cap : Nat) (u : Value) (l : List Nat) (w : World) (hg : g < w.heap.size) (hl : Lies w g 0 l) (h : Came w w.heap.size u l) (hm : l.length ≤ 17592186043904) :
    Calls Try.prog 34 #[.slice (some ⟨g, 0, none⟩) l.length cap, u] w fun e w' => e = .returned (.bool true) ∧ Below w.heap.size w w' := by
  obtain ⟨A, cap2, rfl⟩ := h.form
  have HL := Lib.hid hl
  have HC := Lib.hid h
  have HG := Lib.hid hg
  obtain ⟨len, hll⟩ : ∃ len, l.length = len := ⟨_, rfl⟩
  have HLL := Lib.hid hll
  rw [hll] at HC hm ⊢
  clear hl h hll hg
  go_enter Try.func34, Try.ntmps34
  go_wp2
  go_loopw [5] (fun vi wr => ∃ k : Nat, k ≤ len ∧ vi = .int .i64 k ∧ Below w.heap.size w wr) (fun vi _ => len - (intOf vi).toNat)
  case atStart => exact ⟨0, Nat.zero_le _, rfl, Below.refl _ _⟩
  case round =>
    obtain ⟨k, hk, rfl, hbel⟩ := hrel
    have HB := Lib.hid hbel
    by_cases hlt : k < len
    · have hk2 : k < l.length := by rw [HLL.out]; exact hlt
      have HC3 := HC.out
      rw [← HLL.out] at HC3
      obtain ⟨b, off, rfl, hcell⟩ := (HC3.below hbel).cell hk2
      have hca := (HL.out.below hbel HG.out) k hk2
      rw [Nat.zero_add] at hca
      have hs := fun u => same_q (l.getD k 0) u
      obtain ⟨x, hx⟩ : ∃ x, l.getD k 0 = x := ⟨_, rfl⟩
      rw [hx] at hcell hca hs
      clear HC3 hx hk2 hbel
      go_wp2
      go_quiet ((go_at_call 21; exact Calls.quiet_of_same (hs _)))
      go_wp2
      go_roundw
      case rel => exact ⟨k + 1, by omega, by go_num, below_drw HB.out _⟩
      case measure => first | (simp [intOf]; done) | (simp [intOf]; omega)
    · have hkl : k = len := by omega
      subst hkl
      clear hbel
      go_wp2
      go_ret
      exact ⟨rfl, HB.out⟩

theorem kept_any (base : Nat) (v u : Value) (l : List Nat) (w : World) (hr : Room w base v l) (h : Came w w.heap.size u l) (hm : l.length ≤ 17592186043904) :
    Calls Try.prog 18 #[v, u] w fun e w' => e = .returned (.bool true) ∧ Below w.heap.size w w' := by
  obtain ⟨g, cap, rfl, hcap, _, hg, hl⟩ := hr
  have HSL := fun c => Lib.hid (sameList_any g c u l w hg hl.left h hm)
  obtain ⟨A, cap2, rfl⟩ := h.form
  have hlen : (l ++ [mk1, mk2]).length = l.length + 2 := by simp
  have HL := Lib.hid (fun (w' : World) (hb : Below w.heap.size w w') => (hl.below hb hg) l.length (by rw [hlen]; omega))
  have HM := Lib.hid (fun (w' : World) (hb : Below w.heap.size w w') => (hl.below hb hg) (l.length + 1) (by rw [hlen]; omega))
  have e1 : (l ++ [mk1, mk2]).getD l.length 0 = mk1 := by simp [List.getD]
  have e2 : (l ++ [mk1, mk2]).getD (l.length + 1) 0 = mk2 := by simp [List.getD]
  rw [e1, Nat.zero_add] at HL
  rw [e2, Nat.zero_add] at HM
  have t1 : (FloatKind.f64.format.order mk1 mk1 == some .eq) = true := by decide +kernel
  have t2 : (FloatKind.f64.format.order mk2 mk2 == some .eq) = true := by decide +kernel
  obtain ⟨len, hll⟩ : ∃ len, l.length = len := ⟨_, rfl⟩
  rw [hll] at HSL HL HM hcap hm ⊢
  have hc1 : (len : Int) + 2 ≤ (cap : Int) := by omega
  have hc2 : (len : Int) ≤ (cap : Int) := by omega
  have hm2 : (len : Int) ≤ 17592186043904 := by omega
  have d1 : mk1 = 4619848792751996928 := rfl
  have d2 : mk2 = 13838435755002691584 := rfl
  rw [d1] at t1 HL
  rw [d2] at t2 HM
  clear hl h hlen e1 e2 hll hg d1 d2
  go_enter Try.func18, Try.ntmps18
  go_wp2_with (first | (go_at_call 34; refine (HSL _).out.mono ?_; rintro e w' ⟨rfl, hb⟩; have c1 := HL.out _ hb; have c2 := HM.out _ hb; have HB := Lib.hid hb; clear hb))
  go_ret
  exact ⟨rfl, HB.out⟩
end Go.Proofs.Ytlegkefonpiakaa
