/- Walk of TotDots. Conditions: lists that came in, of words. -/
import Derived.Test.YtlegkefonpiakaaK23
namespace Go.Proofs.Ytlegkefonpiakaa
open Go.RowKit

set_option maxRecDepth 20000 in
theorem totDots_walk (s t : Value) (l m : List Nat) (w : World) (hs : Came w w.heap.size s l) (ht : Came w w.heap.size t m) (hw : Words l) (hx : Words m) (hl : l.length ≤ 17592186043904) (hm : m.length ≤ 17592186043904) :
    Calls Try.prog 4 #[s, t] w fun e w' => e = .returned (.bool true) ∧ Below w.heap.size w w' := by
  have HS := Lib.hid hs
  have HT := Lib.hid ht
  have HW := Lib.hid hw
  have HX := Lib.hid hx
  have HL := Lib.hid hl
  have HM := Lib.hid hm
  have HL2 : Hid (l.length ≤ 9223372036854775807) := Lib.hid (by omega)
  have HM2 : Hid (m.length ≤ 9223372036854775807) := Lib.hid (by omega)
  obtain ⟨A, ca, hv⟩ := hs.form
  obtain ⟨B, cb, hu⟩ := ht.form
  clear hs ht hw hx hl hm
  subst hv
  subst hu
  obtain ⟨p, hp⟩ : ∃ p, l.length = p := ⟨_, rfl⟩
  obtain ⟨q, hq⟩ : ∃ q, m.length = q := ⟨_, rfl⟩
  rw [hp] at HS ⊢
  rw [hq] at HT ⊢
  clear hp hq
  obtain ⟨x, hx⟩ : ∃ x, dotR fitB l m = x := ⟨_, rfl⟩
  obtain ⟨c, hc⟩ : ∃ c, dotErr fitB l m = c := ⟨_, rfl⟩
  obtain ⟨g, hg⟩ : ∃ g, signR fitB l m = g := ⟨_, rfl⟩
  have EX := Lib.hid hx
  have EC := Lib.hid hc
  have EG := Lib.hid hg
  have HAG := Lib.hid (agree_same x c)
  clear hx hc hg
  go_enter Try.func4, Try.ntmps4
  go_wp2_with fail
  refine (awake_any _).mono ?_
  rintro e w1 ⟨rfl, hb1⟩
  have H1 := Lib.hid hb1
  have S1 := Lib.hid (HS.out.on hb1)
  have T1 := Lib.hid (HT.out.on hb1)
  clear hb1
  go_wp2_with fail
  refine (roomy_any _ l _ S1.out HL.out).mono ?_
  rintro e w2 ⟨⟨v', rfl, hroom⟩, hb2⟩
  have R2 := Lib.hid hroom
  have H2 := Lib.hid (below_on H1.out hb2)
  have S2 := Lib.hid (S1.out.on hb2)
  have T2 := Lib.hid (T1.out.on hb2)
  clear hroom hb2
  go_wp2_with fail
  refine (roomy_any _ m _ T2.out HM.out).mono ?_
  rintro e w3 ⟨⟨u', rfl, hroom⟩, hb3⟩
  have Q3 := Lib.hid hroom
  have R3 := Lib.hid (R2.out.below hb3)
  have H3 := Lib.hid (below_on H2.out hb3)
  have S3 := Lib.hid (S2.out.on hb3)
  have T3 := Lib.hid (T2.out.on hb3)
  clear hroom hb3
  go_wp2_with fail
  refine (dot_v v' u' l m _ HL2.out HM2.out HW.out HX.out R3.out.lies Q3.out.lies).mono ?_
  rintro e w4 ⟨rfl, hb4⟩
  rw [EX.out, EC.out]
  have R4 := Lib.hid (R3.out.below hb4)
  have Q4 := Lib.hid (Q3.out.below hb4)
  have H4 := Lib.hid (below_on H3.out hb4)
  have S4 := Lib.hid (S3.out.on hb4)
  have T4 := Lib.hid (T3.out.on hb4)
  clear hb4
  go_wp2_with fail
  refine (refDotF_any _ _ l m _ S4.out T4.out HW.out HX.out HL.out HM.out).mono ?_
  rintro e w5 ⟨rfl, hb5⟩
  rw [EX.out, EC.out]
  have R5 := Lib.hid (R4.out.below hb5)
  have Q5 := Lib.hid (Q4.out.below hb5)
  have H5 := Lib.hid (below_on H4.out hb5)
  have S5 := Lib.hid (S4.out.on hb5)
  have T5 := Lib.hid (T4.out.on hb5)
  clear hb5
  go_wp2_with fail
  refine (sign_v v' u' l m _ HL2.out HM2.out HW.out HX.out R5.out.lies Q5.out.lies).mono ?_
  rintro e w6 ⟨rfl, hb6⟩
  rw [EG.out, EC.out]
  have R6 := Lib.hid (R5.out.below hb6)
  have Q6 := Lib.hid (Q5.out.below hb6)
  have H6 := Lib.hid (below_on H5.out hb6)
  have S6 := Lib.hid (S5.out.on hb6)
  have T6 := Lib.hid (T5.out.on hb6)
  clear hb6
  go_wp2_with fail
  refine (refSign_any _ _ l m _ S6.out T6.out HW.out HX.out HL.out HM.out).mono ?_
  rintro e w7 ⟨rfl, hb7⟩
  rw [EG.out, EC.out]
  have R7 := Lib.hid (R6.out.below hb7)
  have Q7 := Lib.hid (Q6.out.below hb7)
  have H7 := Lib.hid (below_on H6.out hb7)
  have S7 := Lib.hid (S6.out.on hb7)
  have T7 := Lib.hid (T6.out.on hb7)
  clear hb7
  go_wp2_with fail
  refine (agree_any _ _ _ _ _).mono ?_
  rintro e w' ⟨rfl, rfl⟩
  rw [HAG.out]
  go_wp2_with fail
  refine (kept_any _ v' _ l _ R7.out S7.out HL.out).mono ?_
  rintro e w8 ⟨rfl, hb8⟩
  have Q8 := Lib.hid (Q7.out.below hb8)
  have H8 := Lib.hid (below_on H7.out hb8)
  have T8 := Lib.hid (T7.out.on hb8)
  clear hb8
  go_wp2_with fail
  refine (kept_any _ u' _ m _ Q8.out T8.out HM.out).mono ?_
  rintro e w9 ⟨rfl, hb9⟩
  have H9 := Lib.hid (below_on H8.out hb9)
  clear hb9
  go_wp2_with fail
  go_ret
  exact ⟨rfl, H9.out⟩
end Go.Proofs.Ytlegkefonpiakaa
