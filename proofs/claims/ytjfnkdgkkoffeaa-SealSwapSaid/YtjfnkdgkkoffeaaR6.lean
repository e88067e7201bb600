/- Walk: lines sealed. Conditions: lines of the call's own, each of at most 2^47 letters. -/
import Derived.Test.YtjfnkdgkkoffeaaR5
import Derived.Deep.RegionWith
namespace Go.Proofs.Ytjfnkdgkkoffeaa
open Go.RowKit SealLaw

def longK (ls : List Bytes) (k : Nat) : Nat := ((ls.take k).map fun l => l.length + 10).sum
theorem longK_succ {ls : List Bytes} {k : Nat} (h : k < ls.length) : longK ls (k + 1) = longK ls k + ((ls.getD k []).length + 10) := by
  unfold longK
  rw [List.take_succ_eq_append_getElem h, List.map_append, List.sum_append, List.getD_eq_getElem?_getD, List.getElem?_eq_getElem h]; simp
theorem longK_mono (ls : List Bytes) {i j : Nat} (h : i ≤ j) : longK ls i ≤ longK ls j := by
  unfold longK
  have e : ls.take i = (ls.take j).take i := by rw [List.take_take, Nat.min_eq_left h]
  rw [e]
  generalize ls.take j = m
  conv => rhs; rw [← List.take_append_drop i m, List.map_append, List.sum_append]
  omega
theorem ret_sI {a b : ByteArray} {c d : Int} (h : a = b) (h2 : c = d) : Ending.returned (.tuple #[.string a, .int .i64 c]) = .returned (.tuple #[.string b, .int .i64 d]) := by rw [h, h2]
def badL (l : Bytes) : Bool := l.contains 10
def sealErr (ls : List Bytes) : Nat := if 1024 < ls.length then 2 else if 65536 < longK ls ls.length then 2 else if ls.any badL then 90 else 0
def sealK (ls : List Bytes) : Nat → Bytes × Nat
  | 0 => ([], 0)
  | k + 1 => ((sealK ls k).1 ++ (ls.getD k [] ++ 32 :: (hexL (sumN (sealK ls k).2 (ls.getD k [])) ++ [10])), sumN (sealK ls k).2 (ls.getD k []))

theorem sealK_length (ls : List Bytes) : ∀ k, k ≤ ls.length → (sealK ls k).1.length = longK ls k
  | 0, _ => by simp [sealK, longK]
  | k + 1, h => by
    rw [longK_succ (show k < ls.length from h), ← sealK_length ls k (by omega)]
    show ((sealK ls k).1 ++ (ls.getD k [] ++ 32 :: (hexL _ ++ [10]))).length = _
    simp only [List.length_append, List.length_cons, List.length_nil, hexL_length]
theorem badL_get {l : Bytes} : badL l = true ↔ ∃ i, i < l.length ∧ l.getD i 0 = 10 := by
  unfold badL
  rw [List.contains_iff_mem, List.mem_iff_getElem]
  constructor
  · rintro ⟨i, hi, h⟩; exact ⟨i, hi, by rw [List.getD_eq_getElem?_getD, List.getElem?_eq_getElem hi]; exact h⟩
  · rintro ⟨i, hi, h⟩; exact ⟨i, hi, by rw [List.getD_eq_getElem?_getD, List.getElem?_eq_getElem hi] at h; exact h⟩

set_option maxHeartbeats 1000000 in
theorem seal_long (ls : List Bytes) (base : Nat) (v : Value) (w : World) (hown : w.ownsRow base 9 1 v ls.length (strs ls)) (_hb : ∀ l ∈ ls, l.length ≤ 140737488351232) (hlen : 1024 < ls.length) (hm : ls.length ≤ 9223372036854775807) :
    Calls Try.prog 8 #[v] w fun e w' => e = .returned (.tuple #[.string .empty, .int .i64 2]) ∧ Below w.heap.size w w' := by
  obtain ⟨A, ca, rfl⟩ := own_form hown
  clear hown _hb
  go_enter Try.func8, Try.ntmps8
  go_wp2
  go_ret2
  exact ⟨rfl, Below.refl _ _⟩

set_option maxHeartbeats 1000000 in
theorem seal_any (ls : List Bytes) (base : Nat) (v : Value) (w : World) (hown : w.ownsRow base 9 1 v ls.length (strs ls)) (hb : ∀ l ∈ ls, l.length ≤ 140737488351232) (hlen : ls.length ≤ 1024) :
    Calls Try.prog 8 #[v] w fun e w' => e = .returned (.tuple #[.string (if sealErr ls = 0 then ⟨(sealK ls ls.length).1.toArray⟩ else .empty), .int .i64 (sealErr ls : Nat)]) ∧ Below w.heap.size w w' := by
  obtain ⟨A, ca, rfl⟩ := own_form hown
  have HO := Lib.hid hown
  have HLB := Lib.hid hb
  obtain ⟨E, hE⟩ : ∃ E, sealErr ls = E := ⟨_, rfl⟩
  have HE := Lib.hid hE
  rw [hE]
  obtain ⟨R, hR⟩ : ∃ R : ByteArray, (if E = 0 then ⟨(sealK ls ls.length).1.toArray⟩ else .empty) = R := ⟨_, rfl⟩
  have HRR := Lib.hid hR
  rw [hR]
  clear hE hR
  clear hown hb
  go_enter Try.func8, Try.ntmps8
  go_wp2
  go_loopw [4, 16] (fun vt vi wr => ∃ k : Nat, k ≤ ls.length ∧ vi = .int .i64 k ∧ vt = .int .i64 (longK ls k : Nat) ∧ longK ls k ≤ 65536 ∧ Drawn w wr) (fun _ vi _ => ls.length - (intOf vi).toNat)
  case atStart => exact ⟨0, Nat.zero_le _, rfl, rfl, by simp [longK], Drawn.refl _⟩
  case round =>
    obtain ⟨k, hk, rfl, rfl, hlk, ⟨md, rfl⟩⟩ := hrel
    by_cases h : k < ls.length
    · obtain ⟨g, rfl, hcell⟩ := str_cell HO.out h
      have hLb : (ls.getD k []).length ≤ 140737488351232 := HLB.out _ (by rw [List.getD_eq_getElem?_getD, List.getElem?_eq_getElem h]; exact List.getElem_mem h)
      have hsucc := longK_succ h
      have hmono := longK_mono ls (show k + 1 ≤ ls.length from h)
      obtain ⟨L, hL⟩ : ∃ L, ls.getD k [] = L := ⟨_, rfl⟩
      rw [hL] at hcell hLb hsucc
      obtain ⟨b, hbb⟩ : ∃ b : ByteArray, b = ⟨L.toArray⟩ := ⟨_, rfl⟩
      have hbs : b.size = L.length := by rw [hbb]; rfl
      rw [← hbb] at hcell
      clear hL hbb
      obtain ⟨n, hn⟩ : ∃ n, longK ls (k + 1) = n := ⟨_, rfl⟩
      rw [hn] at hsucc hmono
      obtain ⟨t, ht⟩ : ∃ t, longK ls k = t := ⟨_, rfl⟩
      rw [ht] at hsucc hlk ⊢
      have HN := Lib.hid hn
      have HM := Lib.hid hmono
      clear hn ht hmono
      by_cases hbig : 65536 < n
      · have hbig' : decide ((65536 : Int) < (t : Int) + ((L.length : Int) + 10)) = true := by rw [decide_eq_true_eq]; omega
        have he : E = 2 := by
          have := HM.out
          rw [← HE.out]; unfold sealErr; rw [if_neg (by omega), if_pos (by omega)]
        have HEE := Lib.hid he
        clear he hsucc hbig
        go_wp2
        go_ret2
        exact ⟨ret_sI (by rw [← HRR.out, if_neg (by rw [HEE.out]; omega)]; rfl) (by rw [HEE.out]; rfl), below_drw (Below.refl _ _) _⟩
      · have hbig' : decide ((65536 : Int) < (t : Int) + ((L.length : Int) + 10)) = false := by rw [decide_eq_false_iff_not]; omega
        have HS := Lib.hid hsucc
        have HBG : Hid (n ≤ 65536) := Lib.hid (by omega)
        clear hsucc hbig
        go_wp2
        go_roundw
        case rel => exact ⟨k + 1, by omega, by go_num, by rw [HN.out, HS.out]; first | rfl | go_num, by rw [HN.out]; exact HBG.out, ⟨_, rfl⟩⟩
        case measure => first | (simp [intOf]; done) | (simp [intOf]; omega)
    · have hkl : k = ls.length := by omega
      have HLK : Hid (longK ls ls.length ≤ 65536) := Lib.hid (hkl ▸ hlk)
      clear hlk
      obtain ⟨tk, htk⟩ : ∃ tk, longK ls k = tk := ⟨_, rfl⟩
      rw [htk]
      clear htk
      subst hkl
      go_wp2
      go_loopw [32] (fun vi wr => ∃ k : Nat, k ≤ ls.length ∧ vi = .int .i64 k ∧ (∀ i, i < k → badL (ls.getD i []) = false) ∧ Drawn w wr) (fun vi _ => ls.length - (intOf vi).toNat)
      case atStart => exact ⟨0, Nat.zero_le _, rfl, (fun i hi => absurd hi (Nat.not_lt_zero i)), ⟨_, rfl⟩⟩
      case round =>
        obtain ⟨k, hk, rfl, hgood, ⟨md2, rfl⟩⟩ := hrel
        have HG := Lib.hid hgood
        clear hgood
        by_cases h2 : k < ls.length
        · obtain ⟨g, rfl, hcell⟩ := str_cell HO.out h2
          have hLb : (ls.getD k []).length ≤ 140737488351232 := HLB.out _ (by rw [List.getD_eq_getElem?_getD, List.getElem?_eq_getElem h2]; exact List.getElem_mem h2)
          have hmem : ls.getD k [] ∈ ls := by rw [List.getD_eq_getElem?_getD, List.getElem?_eq_getElem h2]; exact List.getElem_mem h2
          obtain ⟨L, hL⟩ : ∃ L, ls.getD k [] = L := ⟨_, rfl⟩
          rw [hL] at hcell hLb hmem
          have HL := Lib.hid hL
          have HME := Lib.hid hmem
          obtain ⟨b, hbb⟩ : ∃ b : ByteArray, b = ⟨L.toArray⟩ := ⟨_, rfl⟩
          have hbs : b.size = L.length := by rw [hbb]; rfl
          have HBB : Hid (b.data.toList = L) := Lib.hid (by rw [hbb])
          rw [← hbb] at hcell
          clear hL hbb hmem
          go_wp2
          go_loopw [40] (fun vi wr => ∃ j : Nat, j ≤ L.length ∧ vi = .int .i64 j ∧ (∀ i, i < j → L.getD i 0 ≠ 10) ∧ Drawn w wr) (fun vi _ => L.length - (intOf vi).toNat)
          case atStart => exact ⟨0, Nat.zero_le _, rfl, (fun i hi => absurd hi (Nat.not_lt_zero i)), ⟨_, rfl⟩⟩
          case round =>
            obtain ⟨j, hj, rfl, hno, ⟨md3, rfl⟩⟩ := hrel
            have HNO := Lib.hid hno
            clear hno
            by_cases h3 : j < L.length
            · have hbt := bL_at b j
              have hbv : bL b j = (L.getD j 0).toNat := by unfold bL; rw [HBB.out]
              by_cases h10 : L.getD j 0 = 10
              · have hbt' : ∀ h : j < b.size, ((b[j]'h).toNat : Int) = 10 := fun h => by rw [hbt h, hbv, h10]; rfl
                have hbad : ls.any badL = true := List.any_eq_true.2 ⟨L, HME.out, badL_get.2 ⟨j, h3, h10⟩⟩
                have hE : E = 90 := by
                  have := HLK.out
                  rw [← HE.out]; unfold sealErr; rw [if_neg (by omega), if_neg (by omega), if_pos hbad]
                have HEE := Lib.hid hE
                clear hbt hbv h10 hbad hE
                go_wp2
                go_ret2
                exact ⟨ret_sI (by rw [← HRR.out, if_neg (by rw [HEE.out]; omega)]; rfl) (by rw [HEE.out]; rfl), below_drw (Below.refl _ _) _⟩
              · have hne : ((bL b j : Int) == 10) = false := by
                  rw [beq_eq_false_iff_ne, hbv]
                  intro e
                  exact h10 (UInt8.toNat_inj.1 (by rw [show (10 : UInt8).toNat = 10 from rfl]; omega))
                have HNX : Hid (∀ i, i < j + 1 → L.getD i 0 ≠ 10) := Lib.hid (fun i hi => by
                  rcases Nat.lt_or_eq_of_le (Nat.le_of_lt_succ hi) with h | h
                  · exact HNO.out i h
                  · subst h; exact h10)
                obtain ⟨z, hz⟩ : ∃ z, bL b j = z := ⟨_, rfl⟩
                rw [hz] at hbt hne
                clear hz hbv h10
                go_wp2
                go_roundw
                case rel => exact ⟨j + 1, by omega, by go_num, HNX.out, ⟨_, rfl⟩⟩
                case measure => first | (simp [intOf]; done) | (simp [intOf]; omega)
            · have hgoodL : badL L = false := by
                rw [Bool.eq_false_iff]
                intro e
                obtain ⟨i, hi, h10⟩ := badL_get.1 e
                exact HNO.out i (by omega) h10
              have HGN : Hid (∀ i, i < k + 1 → badL (ls.getD i []) = false) := Lib.hid (fun i hi => by
                rcases Nat.lt_or_eq_of_le (Nat.le_of_lt_succ hi) with h | h
                · exact HG.out i h
                · subst h; rw [HL.out]; exact hgoodL)
              clear hgoodL
              go_wp2
              go_roundw
              case rel => exact ⟨k + 1, by omega, by go_num, HGN.out, ⟨_, rfl⟩⟩
              case measure => first | (simp [intOf]; done) | (simp [intOf]; omega)
        · have hany : ls.any badL = false := by
            rw [Bool.eq_false_iff]
            intro e
            obtain ⟨l, hl, hbd⟩ := List.any_eq_true.1 e
            obtain ⟨i, hi, rfl⟩ := List.mem_iff_getElem.1 hl
            have := HG.out i (by omega)
            rw [List.getD_eq_getElem?_getD, List.getElem?_eq_getElem hi] at this
            rw [show (some ls[i]).getD [] = ls[i] from rfl] at this
            rw [this] at hbd; cases hbd
          have hE : E = 0 := by
            have := HLK.out
            rw [← HE.out]; unfold sealErr; rw [if_neg (by omega), if_neg (by omega), hany]; rfl
          have HEE := Lib.hid hE
          clear hany hE
          go_wp2
          go_loopw [8, 9, 54] (fun vo vs vi wr => ∃ k : Nat, k ≤ ls.length ∧ vi = .int .i64 k ∧ vo = .string ⟨(sealK ls k).1.toArray⟩ ∧ vs = .int .u32 ((sealK ls k).2 : Nat) ∧ (sealK ls k).2 < P ∧ Below w.heap.size w wr) (fun _ _ vi _ => ls.length - (intOf vi).toNat)
          case atStart => exact ⟨0, Nat.zero_le _, rfl, rfl, rfl, (show 0 < P from by decide), below_drw (Below.refl _ _) _⟩
          case round =>
            obtain ⟨k, hk, rfl, rfl, rfl, hsP, hbel⟩ := hrel
            have HB := Lib.hid hbel
            clear hbel
            by_cases h4 : k < ls.length
            · obtain ⟨g, rfl, hcell⟩ := str_cell (own_stays2 HO.out HB.out (fun k hk => (HO.out.lt k hk).2)) h4
              have hLb : (ls.getD k []).length ≤ 140737488351232 := HLB.out _ (by rw [List.getD_eq_getElem?_getD, List.getElem?_eq_getElem h4]; exact List.getElem_mem h4)
              have hsK : sealK ls (k + 1) = ((sealK ls k).1 ++ (ls.getD k [] ++ 32 :: (hexL (sumN (sealK ls k).2 (ls.getD k [])) ++ [10])), sumN (sealK ls k).2 (ls.getD k [])) := rfl
              obtain ⟨L, hL⟩ : ∃ L, ls.getD k [] = L := ⟨_, rfl⟩
              rw [hL] at hcell hLb hsK
              obtain ⟨O, hO⟩ : ∃ O, (sealK ls k).1 = O := ⟨_, rfl⟩
              obtain ⟨u, hu⟩ : ∃ u, (sealK ls k).2 = u := ⟨_, rfl⟩
              rw [hO, hu] at hsK
              rw [hu] at hsP
              rw [hO, hu]
              have hOl : O.length ≤ 65536 := by
                rw [← hO, sealK_length ls k hk]; exact Nat.le_trans (longK_mono ls hk) HLK.out
              have hLl : L.length ≤ 65536 := by
                have h5 := longK_succ h4
                rw [hL] at h5
                have h6 := Nat.le_trans (longK_mono ls (show k + 1 ≤ ls.length from h4)) HLK.out
                omega
              obtain ⟨bb, hbb⟩ : ∃ bb : ByteArray, ⟨L.toArray⟩ = bb := ⟨_, rfl⟩
              obtain ⟨oo, hoo⟩ : ∃ oo : ByteArray, ⟨O.toArray⟩ = oo := ⟨_, rfl⟩
              have zb : bb.size = L.length := by rw [← hbb]; rfl
              have zo : oo.size = O.length := by rw [← hoo]; rfl
              have hsum := sum_any u (by unfold P at hsP; omega) bb (by rw [zb]; exact hLb)
              rw [Nat.mod_eq_of_lt hsP, show bb.data.toList = L from by rw [← hbb]] at hsum
              have hnP := sumN_lt hsP L
              obtain ⟨n, hn⟩ : ∃ n, sumN u L = n := ⟨_, rfl⟩
              rw [hn] at hsK hnP hsum
              have hhex := hex_any n (by unfold P at hnP; omega)
              obtain ⟨hh, hhh⟩ : ∃ hh : ByteArray, ⟨(hexL n).toArray⟩ = hh := ⟨_, rfl⟩
              have zh : hh.size = 8 := by rw [← hhh]; rfl
              rw [hhh] at hhex
              rw [hbb] at hcell
              rw [hoo]
              have r1 : ∀ u : World, (Op.stringOp .add bb ⟨#[32]⟩).run Try.prog u = .ok (.string (bb ++ ⟨#[32]⟩)) u := fun u => run_string_add_sum u _ _ (by rw [zb]; show _ + 1 ≤ _; omega)
              obtain ⟨s1, hs1⟩ : ∃ s1 : ByteArray, bb ++ ⟨#[32]⟩ = s1 := ⟨_, rfl⟩
              have z1 : s1.size = L.length + 1 := by rw [← hs1, ByteArray.size_append, zb]; rfl
              have r2 : ∀ u : World, (Op.stringOp .add s1 hh).run Try.prog u = .ok (.string (s1 ++ hh)) u := fun u => run_string_add_sum u _ _ (by rw [z1, zh]; omega)
              obtain ⟨s2, hs2⟩ : ∃ s2 : ByteArray, s1 ++ hh = s2 := ⟨_, rfl⟩
              have z2 : s2.size = L.length + 9 := by rw [← hs2, ByteArray.size_append, z1, zh]
              have r3 : ∀ u : World, (Op.stringOp .add s2 ⟨#[10]⟩).run Try.prog u = .ok (.string (s2 ++ ⟨#[10]⟩)) u := fun u => run_string_add_sum u _ _ (by rw [z2]; show _ + 1 ≤ _; omega)
              obtain ⟨s3, hs3⟩ : ∃ s3 : ByteArray, s2 ++ ⟨#[10]⟩ = s3 := ⟨_, rfl⟩
              have z3 : s3.size = L.length + 10 := by rw [← hs3, ByteArray.size_append, z2]; rfl
              have r4 : ∀ u : World, (Op.stringOp .add oo s3).run Try.prog u = .ok (.string (oo ++ s3)) u := fun u => run_string_add_sum u _ _ (by rw [zo, z3]; omega)
              obtain ⟨s4, hs4⟩ : ∃ s4 : ByteArray, oo ++ s3 = s4 := ⟨_, rfl⟩
              have hfin : s4 = ⟨(sealK ls (k + 1)).1.toArray⟩ := by
                rw [hsK, ← hs4, ← hs3, ← hs2, ← hs1, ← hoo, ← hbb, ← hhh]
                apply ByteArray.ext
                simp [ByteArray.data_append]
              rw [hs1] at r1
              rw [hs2] at r2
              rw [hs3] at r3
              rw [hs4] at r4
              have HF := Lib.hid hfin
              have HSK := Lib.hid hsK
              have HNP := Lib.hid hnP
              have hgw : g < wr.heap.size := Nat.lt_of_lt_of_le (HO.out.lt g rfl).2 HB.out.size
              have HCW := Lib.hid hcell
              have HGW := Lib.hid hgw
              clear hL hO hu hn hsK hnP hsP hOl hLl hbb hoo hhh zb zo zh z1 z2 z3 hs1 hs2 hs3 hs4 hfin hLb
              go_wp2_with fail
              ((with_reducible refine (hsum _).mono ?_); rintro e w' ⟨rfl, mda, rfl⟩)
              go_wp2_with fail
              go_region_with (go_at_call 16; (with_reducible refine (hhex _).mono ?_); rintro e wx ⟨rfl, hbx⟩; have hcx : wx.cell? ⟨g, k, none⟩ = some (.string bb) := (hbx.cell (p := ⟨g, k, none⟩) HGW.out).trans HCW.out; have HX := Lib.hid (HB.out.trans (Below.mono ⟨hbx.os, hbx.tape, hbx.output, hbx.size, hbx.block⟩ HB.out.size)); clear hbx)
              all_goals go_wp2
              all_goals (
                go_roundw
                case rel => exact ⟨k + 1, by omega, by go_num, by rw [HF.out], by rw [HSK.out], by rw [HSK.out]; exact HNP.out, by first | exact HX.out | exact below_drw HX.out _⟩
                case measure => first | (simp [intOf]; done) | (simp [intOf]; omega))
            · have hkl2 : k = ls.length := by omega
              have hR2 : R = ⟨(sealK ls k).1.toArray⟩ := by rw [← HRR.out, if_pos HEE.out, hkl2]
              have HR2 := Lib.hid hR2
              obtain ⟨O, hO⟩ : ∃ O, (sealK ls k).1 = O := ⟨_, rfl⟩
              rw [hO]
              have HOO := Lib.hid hO
              clear hR2 hO hsP
              subst hkl2
              go_wp2
              go_ret2
              exact ⟨ret_sI (by rw [HR2.out, HOO.out]) (by rw [HEE.out]; rfl), HB.out⟩
end Go.Proofs.Ytjfnkdgkkoffeaa
