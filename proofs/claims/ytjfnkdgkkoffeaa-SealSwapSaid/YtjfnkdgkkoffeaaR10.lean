/- SealBack: the walk. Conditions: lists and strings of at most 2^47 bytes. -/
import Derived.Test.YtjfnkdgkkoffeaaS2
import Derived.Test.YtjfnkdgkkoffeaaR9
import Derived.Laws.AppendOwnNone
namespace Go.Proofs.Ytjfnkdgkkoffeaa
open Go.RowKit SealLaw

/-- a list of strings that came in -/
def CameS (w : World) (B : Nat) (v : Value) (l : List Bytes) : Prop := (v = .slice none 0 0 ∧ l = []) ∨ ∃ a cap, v = .slice (some a) l.length cap ∧ (l ≠ [] → a.spot = none ∧ a.block < B ∧ ∀ i, i < l.length → w.cell? ⟨a.block, a.off + i, none⟩ = some (.string ⟨(l.getD i []).toArray⟩))
theorem CameS.below {w wr : World} {v : Value} {B : Nat} {l : List Bytes} (h : CameS w B v l) (hb : Below B w wr) : CameS wr B v l := by
  rcases h with h | ⟨a, cap, h1, h2⟩
  · exact Or.inl h
  · refine Or.inr ⟨a, cap, h1, fun h => ⟨(h2 h).1, (h2 h).2.1, fun i hi => ?_⟩⟩
    rw [show wr.cell? ⟨a.block, a.off + i, none⟩ = w.cell? ⟨a.block, a.off + i, none⟩ from hb.cell (p := ⟨a.block, a.off + i, none⟩) (h2 h).2.1]
    exact (h2 h).2.2 i hi
theorem CameS.form {w : World} {v : Value} {B : Nat} {l : List Bytes} (h : CameS w B v l) : ∃ A cap, v = .slice A l.length cap := by
  rcases h with ⟨rfl, rfl⟩ | ⟨a, cap, rfl, _⟩
  · exact ⟨none, 0, rfl⟩
  · exact ⟨_, cap, rfl⟩
theorem CameS.sin {w : World} {v : Value} {B : Nat} {l : List Bytes} (h : CameS w B v l) : SIn w v l := by
  rcases h with ⟨rfl, rfl⟩ | ⟨a, cap, rfl, h⟩
  · exact ⟨none, 0, rfl, fun i hi => by simp at hi⟩
  · refine ⟨some a, cap, rfl, fun i hi => ?_⟩
    obtain ⟨h1, _, h3⟩ := h (by intro e; rw [e] at hi; simp at hi)
    obtain ⟨b, off, spot⟩ := a
    simp only at h1 h3
    subst h1
    exact ⟨b, off, rfl, h3 i hi⟩
theorem strs_one (l : List Bytes) : ∀ u ∈ strs l, u.oneCell' = true := by
  intro u hu
  obtain ⟨b, _, rfl⟩ := List.mem_map.1 hu
  rfl
theorem wpList_append_srcS {w : World} {ops : Array Oper} {rest : List Oper} {o : Oper} {a : Act} {Q : Exit → Act → World → Prop} (hgd : o.guard = none) (s x : Operand)
    (ho : o.op = .call { callee := .builtin .append, args := #[s, x], argTypes := #[22, 22] })
    (base n : Nat) (v : Value) (xs : List Value) (hs : a.eval s = v) (hown : w.ownsRow base 9 1 v n xs)
    (B : Nat) (src : Value) (l : List Bytes) (hx : a.eval x = src) (hsrc : CameS w B src l) (h63 : n + l.length ≤ 8796093022208) (hbase : base ≤ w.heap.size)
    (h : ∀ v' w', w'.ownsRow base 9 1 v' (n + l.length) (xs ++ strs l) → w.grownBy w' v.ownBlock → (v'.ownBlock = v.ownBlock ∨ v'.ownBlock = some w.heap.size) → wpList Try.prog ops Q rest (a.put o.dst v') w') :
    wpList Try.prog ops Q (o :: rest) a w := by
  obtain ⟨i0, hi, hz0, hz1, hz2⟩ := info_parts Try.info9
  rcases hsrc with ⟨rfl, rfl⟩ | ⟨ad, cap, rfl, hl⟩
  · refine wpList_append_own_none hgd s x 22 ho base 9 i0 1 Try.underlying22 hi v n xs hs hown hx ?_
    exact h v w (by simpa [strs] using hown) ⟨rfl, rfl, rfl, Nat.le_refl _, fun _ _ _ => rfl⟩ (Or.inl rfl)
  · refine wpList_append_own_at w hgd s x 22 ho base 9 i0 (.string .empty) 1 16 Try.underlying22 hi hz0 hz1 hz2 rfl (by decide) v n xs hs hown ad l.length cap (strs l) hx (by simp [strs]) ?_ (strs_one l) (by unfold maxLen; omega) (by omega) hbase ?_
    · intro j u hj
      have hjl : j < l.length := by
        rcases Nat.lt_or_ge j l.length with h' | h'
        · exact h'
        · rw [List.getElem?_eq_none (by simp [strs]; exact h')] at hj; cases hj
      obtain ⟨hsp, _, hl2⟩ := hl (by intro e; rw [e] at hjl; simp at hjl)
      obtain ⟨b, off, spot⟩ := ad
      simp only at hsp hl2
      subst hsp
      have hc := hl2 j hjl
      have hu : u = .string ⟨(l.getD j []).toArray⟩ := by
        unfold strs at hj
        rw [List.getElem?_map, List.getElem?_eq_getElem hjl] at hj
        simp [List.getD, List.getElem?_eq_getElem hjl] at hj ⊢
        exact hj.symm
      rw [hu, ← hc]
      unfold Addr.add
      by_cases h0 : j = 0
      · subst h0; simp
      · simp [h0]
    · intro v' w' h1 h2 _ h4
      exact h v' w' h1 h2 h4
theorem own_emptyS (w : World) : (w.alloc (.cells #[] 9)).ownsRow w.heap.size 9 1 (.slice (some ⟨w.heap.size, 0, none⟩) 0 0) 0 [] :=
  ⟨rfl, Or.inr ⟨w.heap.size, 0, #[], rfl, Nat.le_refl _, heap_alloc_new w _, Nat.le_refl _, by unfold maxLen; omega, rfl, rfl⟩⟩

theorem seal_full (ls : List Bytes) (base : Nat) (v : Value) (w : World) (hown : w.ownsRow base 9 1 v ls.length (strs ls)) (hb : ∀ l ∈ ls, l.length ≤ 140737488351232) :
    Calls Try.prog 8 #[v] w fun e w' => e = .returned (.tuple #[.string (if sealErr ls = 0 then ⟨(sealT 0 ls).toArray⟩ else .empty), .int .i64 (sealErr ls : Nat)]) ∧ Below w.heap.size w w' := by
  rcases Nat.lt_or_ge 1024 ls.length with h | h
  · have he : sealErr ls = 2 := by unfold sealErr; rw [if_pos h]
    rw [he]
    exact seal_long ls base v w hown hb h (own_len hown)
  · rw [← sealK_all]
    exact seal_any ls base v w hown hb h

set_option maxHeartbeats 2000000 in
theorem back_walk (src : Value) (ls : List Bytes) (s : ByteArray) (w : World) (hsrc : CameS w w.heap.size src ls) (hlb : ∀ l ∈ ls, l.length ≤ 140737488351232) (hm : ls.length ≤ 8796093022208) (hrb : ∀ l ∈ (readR s.data.toList).1, l.length ≤ 140737488351232) :
    Calls Try.prog 5 #[src, .string s] w fun e w' => e = .returned (.bool true) ∧ Below w.heap.size w w' := by
  have HS := Lib.hid hsrc
  have HLB := Lib.hid hlb
  have HRB := Lib.hid hrb
  obtain ⟨A, ca, rfl⟩ := hsrc.form
  clear hsrc hlb hrb
  by_cases hez : sealErr ls = 0
  · have HEZ := Lib.hid hez
    clear hez
    go_enter Try.func5, Try.ntmps5
    go_wp2_with fail
    refine (awake_any _).mono ?_
    rintro e w1 ⟨rfl, hb⟩
    have B1 := Lib.hid hb
    clear hb
    have HC1 := Lib.hid (HS.out.below (B1.out.alloc B1.out.size (.cells #[] 9)))
    have HE1 := Lib.hid (own_emptyS w1)
    go_wp2_with (first | (at_builtin; refine wpList_append_srcS rfl _ _ rfl w1.heap.size 0 _ [] rfl HE1.out w.heap.size _ ls rfl HC1.out ?c1 ?c2 ?_))
    case c1 => omega
    case c2 => first | (simp; done) | (simp; omega)
    intro va wa hown hgr _
    have HO1 := Lib.hid (show wa.ownsRow w1.heap.size 9 1 va ls.length (strs ls) from by simpa using hown)
    have HD1 := Lib.hid (((Below.refl w1.heap.size w1).alloc (Nat.le_refl _) (.cells #[] 9)).grown hgr (by simp) (by intro k hk; simp [Value.ownBlock] at hk; omega))
    have HA1 := Lib.hid (B1.out.trans (HD1.out.mono B1.out.size))
    clear hown hgr
    have hseal := seal_full ls w1.heap.size va wa HO1.out HLB.out
    rw [HEZ.out, if_pos rfl] at hseal
    obtain ⟨t, ht⟩ : ∃ t : ByteArray, ⟨(sealT 0 ls).toArray⟩ = t := ⟨_, rfl⟩
    have htl : t.data.toList = sealT 0 ls := by rw [← ht]
    rw [ht] at hseal
    go_wp2_with fail
    refine hseal.mono ?_
    rintro e wb ⟨rfl, hb⟩
    have B2 := Lib.hid (HA1.out.trans (hb.mono HA1.out.size))
    clear hb hseal
    have hread := read_any t wb
    rw [htl, read_sealed HEZ.out] at hread
    clear ht htl
    go_wp2_with fail
    refine hread.mono ?_
    rintro e wc ⟨vr, rfl, hx, hb⟩
    have X1 := Lib.hid hx
    have B3 := Lib.hid (B2.out.trans (hb.mono B2.out.size))
    clear hx hb hread
    have hsame := same_any vr (.slice A ls.length ca) ls ls wc (sin_own X1.out) (HS.out.below B3.out).sin (own_len X1.out) (by omega)
    rw [decide_eq_true rfl] at hsame
    go_wp2_with fail
    refine hsame.mono ?_
    rintro e wd ⟨rfl, m1, rfl⟩
    clear hsame
    have B4 := Lib.hid (below_drw B3.out m1)
    have hread := read_any s (wc.drewN m1)
    have hlaw := seal_read (t := s.data.toList)
    obtain ⟨L, hL⟩ : ∃ L, (readR s.data.toList).1 = L := ⟨_, rfl⟩
    obtain ⟨n, hn⟩ : ∃ n, (readR s.data.toList).2.1 = n := ⟨_, rfl⟩
    obtain ⟨q, hq⟩ : ∃ q, (readR s.data.toList).2.2 = q := ⟨_, rfl⟩
    rw [hL, hn, hq] at hread hlaw
    have hLb : ∀ l ∈ L, l.length ≤ 140737488351232 := fun l hl => HRB.out l (by rw [hL]; exact hl)
    have HLb := Lib.hid hLb
    clear hL hn hq hLb
    rcases hlaw with ⟨h1, h2⟩ | ⟨h1, h2, h3, h4⟩
    · subst h2
      have hq1 : ((q : Int) != 0) = true := by rw [bne_iff_ne]; omega
      clear h1
      go_wp2_with fail
      refine hread.mono ?_
      rintro e we ⟨vr2, rfl, hx, hb⟩
      have B5 := Lib.hid (B4.out.trans (hb.mono B4.out.size))
      obtain ⟨A2, c2, rfl⟩ := own_form hx
      clear hx hb hread
      go_wp2_with fail
      go_ret
      exact ⟨rfl, B5.out⟩
    · subst h1 h2
      have H3 := Lib.hid h3
      have H4 := Lib.hid h4
      clear h3 h4
      go_wp2_with fail
      refine hread.mono ?_
      rintro e we ⟨vr2, rfl, hx, hb⟩
      have X2 := Lib.hid hx
      have B5 := Lib.hid (B4.out.trans (hb.mono B4.out.size))
      clear hx hb hread
      have hs2 := seal_full L _ vr2 we X2.out HLb.out
      rw [H3.out, if_pos rfl, H4.out, show (⟨s.data.toList.toArray⟩ : ByteArray) = s from by apply ByteArray.ext; simp] at hs2
      have hself : (s.toList == s.toList) = true := by simp
      go_wp2_with fail
      refine hs2.mono ?_
      rintro e wf ⟨rfl, hb⟩
      have B6 := Lib.hid (B5.out.trans (hb.mono B5.out.size))
      clear hb hs2
      go_wp2
      go_ret
      exact ⟨rfl, B6.out⟩
  · have HEZ := Lib.hid hez
    clear hez
    go_enter Try.func5, Try.ntmps5
    go_wp2_with fail
    refine (awake_any _).mono ?_
    rintro e w1 ⟨rfl, hb⟩
    have B1 := Lib.hid hb
    clear hb
    have HC1 := Lib.hid (HS.out.below (B1.out.alloc B1.out.size (.cells #[] 9)))
    have HE1 := Lib.hid (own_emptyS w1)
    go_wp2_with (first | (at_builtin; refine wpList_append_srcS rfl _ _ rfl w1.heap.size 0 _ [] rfl HE1.out w.heap.size _ ls rfl HC1.out ?c1 ?c2 ?_))
    case c1 => omega
    case c2 => first | (simp; done) | (simp; omega)
    intro va wa hown hgr _
    have HO1 := Lib.hid (show wa.ownsRow w1.heap.size 9 1 va ls.length (strs ls) from by simpa using hown)
    have HD1 := Lib.hid (((Below.refl w1.heap.size w1).alloc (Nat.le_refl _) (.cells #[] 9)).grown hgr (by simp) (by intro k hk; simp [Value.ownBlock] at hk; omega))
    have HA1 := Lib.hid (B1.out.trans (HD1.out.mono B1.out.size))
    clear hown hgr
    have hseal := seal_full ls w1.heap.size va wa HO1.out HLB.out
    rw [if_neg HEZ.out] at hseal
    obtain ⟨E, hE⟩ : ∃ E, sealErr ls = E := ⟨_, rfl⟩
    have hez := HEZ.out
    rw [hE] at hseal hez
    have he1 : ((E : Int) == 0) = false := by rw [beq_eq_false_iff_ne]; omega
    clear hE hez
    go_wp2_with fail
    refine hseal.mono ?_
    rintro e wb ⟨rfl, hb⟩
    have B4 := Lib.hid (HA1.out.trans (hb.mono HA1.out.size))
    clear hb hseal
    have hread := read_any s wb
    have hlaw := seal_read (t := s.data.toList)
    obtain ⟨L, hL⟩ : ∃ L, (readR s.data.toList).1 = L := ⟨_, rfl⟩
    obtain ⟨n, hn⟩ : ∃ n, (readR s.data.toList).2.1 = n := ⟨_, rfl⟩
    obtain ⟨q, hq⟩ : ∃ q, (readR s.data.toList).2.2 = q := ⟨_, rfl⟩
    rw [hL, hn, hq] at hread hlaw
    have hLb : ∀ l ∈ L, l.length ≤ 140737488351232 := fun l hl => HRB.out l (by rw [hL]; exact hl)
    have HLb := Lib.hid hLb
    clear hL hn hq hLb
    rcases hlaw with ⟨h1, h2⟩ | ⟨h1, h2, h3, h4⟩
    · subst h2
      have hq1 : ((q : Int) != 0) = true := by rw [bne_iff_ne]; omega
      clear h1
      go_wp2_with fail
      refine hread.mono ?_
      rintro e we ⟨vr2, rfl, hx, hb⟩
      have B5 := Lib.hid (B4.out.trans (hb.mono B4.out.size))
      obtain ⟨A2, c2, rfl⟩ := own_form hx
      clear hx hb hread
      go_wp2_with fail
      go_ret
      exact ⟨rfl, B5.out⟩
    · subst h1 h2
      have H3 := Lib.hid h3
      have H4 := Lib.hid h4
      clear h3 h4
      go_wp2_with fail
      refine hread.mono ?_
      rintro e we ⟨vr2, rfl, hx, hb⟩
      have X2 := Lib.hid hx
      have B5 := Lib.hid (B4.out.trans (hb.mono B4.out.size))
      clear hx hb hread
      have hs2 := seal_full L _ vr2 we X2.out HLb.out
      rw [H3.out, if_pos rfl, H4.out, show (⟨s.data.toList.toArray⟩ : ByteArray) = s from by apply ByteArray.ext; simp] at hs2
      have hself : (s.toList == s.toList) = true := by simp
      go_wp2_with fail
      refine hs2.mono ?_
      rintro e wf ⟨rfl, hb⟩
      have B6 := Lib.hid (B5.out.trans (hb.mono B5.out.size))
      clear hb hs2
      go_wp2
      go_ret
      exact ⟨rfl, B6.out⟩
end Go.Proofs.Ytjfnkdgkkoffeaa
