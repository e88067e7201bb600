/- Walk of TotExact. Conditions: a list that came in, of words. -/
import Derived.Test.YtlegkefonpiakaaK20
namespace Go.Proofs.Ytlegkefonpiakaa
open Go.RowKit

theorem Came.mono {w : World} {v : Value} {B C : Nat} {l : List Nat} (h : Came w B v l) (hB : B ≤ C) : Came w C v l := by
  rcases h with h | ⟨a, cap, h1, h2⟩
  · exact Or.inl h
  · exact Or.inr ⟨a, cap, h1, fun h => ⟨(h2 h).1, Nat.lt_of_lt_of_le (h2 h).2.1 hB, (h2 h).2.2⟩⟩
theorem Came.on {w wr : World} {v : Value} {l : List Nat} (h : Came w w.heap.size v l) (hb : Below w.heap.size w wr) : Came wr wr.heap.size v l := (h.below hb).mono hb.size
theorem below_on {a b c : World} (h : Below a.heap.size a b) (k : Below b.heap.size b c) : Below a.heap.size a c := h.trans (k.mono h.size)

set_option maxRecDepth 20000 in
theorem totExact_walk (src : Value) (l : List Nat) (w : World) (hsrc : Came w w.heap.size src l) (hw : Words l) (hm : l.length ≤ 17592186043904) :
    Calls Try.prog 7 #[src] w fun e w' => e = .returned (.bool true) ∧ Below w.heap.size w w' := by
  have HS := Lib.hid hsrc
  have HW := Lib.hid hw
  obtain ⟨A, cap, hv⟩ := hsrc.form
  clear hsrc hw
  subst hv
  have HM := Lib.hid hm
  obtain ⟨len, hll⟩ : ∃ len, l.length = len := ⟨_, rfl⟩
  rw [hll] at HS ⊢
  clear hm hll
  obtain ⟨x, hx⟩ : ∃ x, exactR fitB l = x := ⟨_, rfl⟩
  obtain ⟨c, hc⟩ : ∃ c, checkL fitB l = c := ⟨_, rfl⟩
  have HX := Lib.hid hx
  have HC := Lib.hid hc
  have HAG := Lib.hid (agree_same x c)
  clear hx hc
  go_enter Try.func7, Try.ntmps7
  go_wp2_with fail
  refine (awake_any _).mono ?_
  rintro e w1 ⟨rfl, hb1⟩
  have H1 := Lib.hid hb1
  have S1 := Lib.hid (HS.out.on hb1)
  clear hb1
  go_wp2_with fail
  refine (roomy_any _ l _ S1.out HM.out).mono ?_
  rintro e w2 ⟨⟨v', rfl, hroom⟩, hb2⟩
  have R2 := Lib.hid hroom
  have H2 := Lib.hid (below_on H1.out hb2)
  have S2 := Lib.hid (S1.out.on hb2)
  clear hroom hb2
  go_wp2_with fail
  refine (exact_v v' l _ (by have := HM.out; omega) HW.out R2.out.lies).mono ?_
  rintro e w3 ⟨rfl, hb3⟩
  rw [HX.out, HC.out]
  have H3 := Lib.hid (below_on H2.out hb3)
  have S3 := Lib.hid (S2.out.on hb3)
  have R3 := Lib.hid (R2.out.below hb3)
  clear hb3
  go_wp2_with fail
  refine (refExact_any _ l _ S3.out HW.out (by have := HM.out; omega)).mono ?_
  rintro e w4 ⟨rfl, hb4⟩
  rw [HX.out, HC.out]
  have H4 := Lib.hid (below_on H3.out hb4)
  have S4 := Lib.hid (S3.out.on hb4)
  have R4 := Lib.hid (R3.out.below hb4)
  clear hb4
  go_wp2_with fail
  refine (agree_any _ _ _ _ _).mono ?_
  rintro e w' ⟨rfl, rfl⟩
  rw [HAG.out]
  go_wp2_with fail
  refine (kept_any _ v' _ l _ R4.out S4.out HM.out).mono ?_
  rintro e w5 ⟨rfl, hb5⟩
  have H5 := Lib.hid (below_on H4.out hb5)
  clear hb5
  go_wp2_with fail
  go_ret
  exact ⟨rfl, H5.out⟩
end Go.Proofs.Ytlegkefonpiakaa
