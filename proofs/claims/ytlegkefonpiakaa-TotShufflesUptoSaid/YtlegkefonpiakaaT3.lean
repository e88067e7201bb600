/- The walk of tot's 'more': an expansion grown in its own memory. Conditions: the sums as two are valid. -/
import Derived.Test.YtlegkefonpiakaaT2
namespace Go
/-- 'append(s, x)' of one element where there is room: the cell is written in place -/
theorem wpList_append_inplace {P : Program} {w : World} {ops : Array Oper} {rest : List Oper} {o : Oper} {a : Act} {Q : Exit → Act → World → Prop} (hgd : o.guard = none) (s x : Operand) (t : TypeId)
    (ho : o.op = .call { callee := .builtin .append, args := #[s, x], argTypes := #[t, t] })
    (e : TypeId) (i : TypeInfo) (ht : P.underlying t = some (.slice e)) (hi : P.info? e = some i) (hsize : i.size = 1)
    (g n cap : Nat) (hs : a.eval s = .slice (some ⟨g, 0, none⟩) n cap) (cur : Array Value) (hg : w.heap[g]? = some (.cells cur e (0, 0)))
    (ad : Addr) (c : Nat) (u : Value) (hx : a.eval x = .slice (some ad) 1 c) (hu : w.cell? ad = some u) (h1 : u.oneCell' = true)
    (hroom : n + 1 ≤ cap) (hfit : n + 1 ≤ cur.size)
    (h : wpList P ops Q rest (a.put o.dst (.slice (some ⟨g, 0, none⟩) (n + 1) cap)) (w.setRow g (cur.toList.take n ++ [u] ++ cur.toList.drop (n + 1)).toArray)) :
    wpList P ops Q (o :: rest) a w := by
  refine wpList_plain hgd fun K hK => ?_
  have had : ad.add 0 = ad := by unfold Addr.add; split <;> simp_all
  have hr := run_append_room (P := P) w t o.type e i ht hi g n cap cur hg ad 1 c [u] (by rw [hsize]; rfl) (by
    intro j v hj
    match j, hj with
    | 0, hj => simp at hj; subst hj; rw [had]; exact hu) (by intro v hv; rw [List.mem_singleton] at hv; subst hv; exact h1) hroom (by rw [hsize]; simpa using hfit)
  rw [hsize, Nat.mul_one] at hr
  unfold Oper.wp execOp
  simp only [ho, resolve, invoke, builtin, Sem.run_bind, Sem.run_pure, Result.andThen_ok, List.map_toArray, List.map_cons, List.map_nil, hs, hx, hr]
  exact hK _ _ h
end Go
namespace Go.Proofs.Ytlegkefonpiakaa
open Go.RowKit

def nz (x : Nat) : Bool := o64 x 0 != some .eq
def growStep (p : List Nat × Nat) (y : Nat) : List Nat × Nat := (if nz (twoE p.2 y) then p.1 ++ [twoE p.2 y] else p.1, twoS p.2 y)
def growSt (ys : List Nat) (x : Nat) (k : Nat) : List Nat × Nat := (ys.take k).foldl growStep ([], x)
def growW (ys : List Nat) (x : Nat) : List Nat := if nz (growSt ys x ys.length).2 then (growSt ys x ys.length).1 ++ [(growSt ys x ys.length).2] else (growSt ys x ys.length).1
def GrowOk (ys : List Nat) (x : Nat) : Prop := ∀ k, k < ys.length → TwoOk (growSt ys x k).2 (ys.getD k 0)

theorem growSt_succ {ys : List Nat} {x k : Nat} (h : k < ys.length) : growSt ys x (k + 1) = growStep (growSt ys x k) (ys.getD k 0) := by
  have e : ys.getD k 0 = ys[k] := by simp [List.getD, List.getElem?_eq_getElem h]
  unfold growSt
  rw [e, List.take_succ_eq_append_getElem h, List.foldl_append]; rfl
theorem growSt_le (ys : List Nat) (x : Nat) : ∀ k, k ≤ ys.length → (growSt ys x k).1.length ≤ k := by
  intro k
  induction k with
  | zero => intro _; simp [growSt]
  | succ k ih =>
    intro h
    rw [growSt_succ (by omega)]
    have := ih (by omega)
    unfold growStep
    dsimp only
    split <;> simp <;> omega

def flts (l : List Nat) : List Value := l.map (Value.float .f64)
theorem Try.info23 : (Try.prog.info? 23).map (fun i => (i.zero, i.size, i.bytes)) = some (some (.float .f64 0), 1, 8) := by kernel_rfl

/-- the loop's memory: what has been written, what is still to be read -/
structure MoreMem (w wr : World) (g cap : Nat) (outs ys : List Nat) (k : Nat) : Prop where
  grown : w.grownBy wr (some g)
  block : ∃ cur : Array Value, wr.heap[g]? = some (.cells cur 23 (0, 0)) ∧ cur.size = cap ∧ cur.toList.take outs.length = flts outs ∧ ∀ i, k ≤ i → i < ys.length → cur[i]? = some (.float .f64 (ys.getD i 0))

theorem flts_length (l : List Nat) : (flts l).length = l.length := by simp [flts]
theorem flts_append (a b : List Nat) : flts (a ++ b) = flts a ++ flts b := by simp [flts]
theorem flts_one (l : List Nat) : ∀ u ∈ flts l, u.oneCell' = true := by
  intro u hu; unfold flts at hu; obtain ⟨x, _, rfl⟩ := List.mem_map.1 hu; rfl

theorem more_start {base g cap : Nat} {ys : List Nat} {w : World} (hown : w.ownsRow base 23 1 (.slice (some ⟨g, 0, none⟩) ys.length cap) ys.length (flts ys)) : MoreMem w w g cap [] ys 0 ∧ base ≤ g ∧ ys.length ≤ cap ∧ cap ≤ maxLen := by
  rcases hown.2 with ⟨h, _⟩ | ⟨g', cap', cur, hv, hb, hg, hn, hm, hsz, ht⟩
  · cases h
  · cases hv
    refine ⟨⟨⟨rfl, rfl, rfl, Nat.le_refl _, fun _ _ _ => rfl⟩, cur, hg, by omega, by simp [flts], ?_⟩, hb, hn, hm⟩
    intro i _ hi
    rw [Nat.mul_one] at ht
    have h1 : (cur.toList.take ys.length)[i]? = (flts ys)[i]? := by rw [ht]
    rw [List.getElem?_take_of_lt hi, Array.getElem?_toList] at h1
    rw [h1]
    unfold flts
    rw [List.getElem?_map]
    simp [List.getD, List.getElem?_eq_getElem hi]

theorem MoreMem.cell {w wr : World} {g cap : Nat} {outs ys : List Nat} {k : Nat} (h : MoreMem w wr g cap outs ys k) (hk : k < ys.length) : wr.cell? ⟨g, k, none⟩ = some (.float .f64 (ys.getD k 0)) := by
  obtain ⟨cur, hg, hsz, _, hc⟩ := h.block
  have := hc k (Nat.le_refl _) hk
  unfold World.cell?
  simp [hg, this]

theorem MoreMem.skip {w wr : World} {g cap : Nat} {outs ys : List Nat} {k : Nat} (h : MoreMem w wr g cap outs ys k) : MoreMem w wr g cap outs ys (k + 1) :=
  ⟨h.grown, let ⟨cur, hg, hsz, ht, hc⟩ := h.block; ⟨cur, hg, hsz, ht, fun i h1 h2 => hc i (by omega) h2⟩⟩

theorem MoreMem.push {w wr : World} {g cap : Nat} {outs ys : List Nat} {k : Nat} (h : MoreMem w wr g cap outs ys k) (hgw : g < w.heap.size) (x : Nat) (o : Obj) (cur : Array Value) (hcur : wr.heap[g]? = some (.cells cur 23 (0, 0)))
    (hsz : cur.size = cap) (ht : cur.toList.take outs.length = flts outs) (hc : ∀ i, k ≤ i → i < ys.length → cur[i]? = some (.float .f64 (ys.getD i 0))) (hk : outs.length ≤ k) (hkc : k < cap) :
    MoreMem w ((wr.alloc o).setRow g (cur.toList.take outs.length ++ [Value.float .f64 x] ++ cur.toList.drop (outs.length + 1)).toArray) g cap (outs ++ [x]) ys (k + 1) := by
  have hlt : g < wr.heap.size := Nat.lt_of_lt_of_le hgw h.grown.size
  have hg' : (wr.alloc o).heap[g]? = some (.cells cur 23 (0, 0)) := by rw [heap_alloc_old wr o hlt]; exact hcur
  have hL : cur.toList.length = cap := by rw [Array.length_toList]; exact hsz
  refine ⟨⟨h.grown.os, h.grown.tape, h.grown.output, ?_, ?_⟩, _, setRow_heap _ _ _ _ _ _ hg', ?_, ?_, ?_⟩
  · rw [setRow_size]; simp; have := h.grown.size; omega
  · intro j hj hne
    have hjg : j ≠ g := fun e => hne (by rw [e])
    rw [setRow_other _ _ _ _ hjg, heap_alloc_old wr o (Nat.lt_of_lt_of_le hj h.grown.size)]
    exact h.grown.block j hj hne
  · simp [hL]; omega
  · rw [flts_append, ← ht, List.length_append, List.length_singleton]
    have h1 : (cur.toList.take outs.length ++ [Value.float .f64 x]).length = outs.length + 1 := by simp [hL]; omega
    rw [← h1, List.toList_toArray, List.take_left]
    rfl
  · intro i hi hi2
    have h1 : (cur.toList.take outs.length ++ [Value.float .f64 x]).length = outs.length + 1 := by simp [hL]; omega
    rw [List.getElem?_toArray, List.getElem?_append_right (by omega), h1, List.getElem?_drop, Array.getElem?_toList, show outs.length + 1 + (i - (outs.length + 1)) = i from by omega]
    exact hc i (by omega) hi2

theorem MoreMem.owns {w wr : World} {g cap base : Nat} {outs ys : List Nat} {k : Nat} (h : MoreMem w wr g cap outs ys k) (hb : base ≤ g) (hle : outs.length ≤ cap) (hm : cap ≤ maxLen) : wr.ownsRow base 23 1 (.slice (some ⟨g, 0, none⟩) outs.length cap) outs.length (flts outs) := by
  obtain ⟨cur, hg, hsz, ht, _⟩ := h.block
  exact ⟨by simp [flts], .inr ⟨g, cap, cur, rfl, hb, hg, hle, hm, by omega, by rw [Nat.mul_one]; exact ht⟩⟩

set_option maxHeartbeats 1000000 in
theorem more_some (base g cap len : Nat) (ys : List Nat) (x : Nat) (w : World) (hlen : len = ys.length) (hown : w.ownsRow base 23 1 (.slice (some ⟨g, 0, none⟩) len cap) len (flts ys)) (hm : len + 1 ≤ 17592186044415)
    (hok : GrowOk ys x) :
    Calls Try.prog 28 #[.slice (some ⟨g, 0, none⟩) len cap, .float .f64 x] w fun e w' => ∃ v', e = .returned v' ∧ w'.ownsRow base 23 1 v' (growW ys x).length (flts (growW ys x)) ∧ w.grownBy w' (some g) ∧ (v'.ownBlock = some g ∨ ∃ g', v'.ownBlock = some g' ∧ w.heap.size ≤ g') := by
  obtain ⟨i0, hi, hz0, hz1, hz2⟩ := info_parts Try.info23
  subst hlen
  obtain ⟨hst, hbg, hncap, hcapm⟩ := more_start hown
  have hgw : g < w.heap.size := (hown.lt g rfl).2
  have HO := Lib.hid hok
  have HS := Lib.hid hst
  clear hok hown hst
  go_enter Try.func28, Try.ntmps28
  go_wp2
  go_loopw [1, 5, 14] (fun vx vo i wr => ∃ k : Nat, k ≤ ys.length ∧ i = .int .i64 k ∧ vx = .float .f64 (growSt ys x k).2 ∧ vo = .slice (some ⟨g, 0, none⟩) (growSt ys x k).1.length cap ∧ MoreMem w wr g cap (growSt ys x k).1 ys k) (fun _ _ i _ => ys.length - (intOf i).toNat)
  case atStart => exact ⟨0, Nat.zero_le _, rfl, rfl, rfl, HS.out⟩
  case round =>
    obtain ⟨k, hk, rfl, rfl, rfl, hmem⟩ := hrel
    have HM := Lib.hid hmem
    clear hmem
    have hle := growSt_le ys x k hk
    by_cases hlt : k < ys.length
    · have hcell := HM.out.cell hlt
      have HT := Lib.hid (growSt_succ (x := x) hlt)
      have hok := HO.out k hlt
      generalize hy : ys.getD k 0 = y at *
      have HY := Lib.hid hy
      clear hy
      obtain ⟨outs, xk, hp⟩ : ∃ outs xk, growSt ys x k = (outs, xk) := ⟨_, _, rfl⟩
      rw [hp] at hok hle ⊢
      have HP := Lib.hid hp
      clear hp
      dsimp only at hok hle ⊢
      obtain ⟨cur, hcur, hcsz, hctake, hcrest⟩ := HM.out.block
      rw [HP.out] at hctake
      have HC1 := Lib.hid hcur
      have HC2 := Lib.hid hcsz
      have HC3 := Lib.hid hctake
      have HC4 := Lib.hid hcrest
      clear hcur hcsz hctake hcrest
      have hgr : g < wr.heap.size := Nat.lt_of_lt_of_le hgw HM.out.grown.size
      have hkc : k < cap := by omega
      cases hz : nz (twoE xk y)
      · have hz' : (FloatKind.f64.format.order (twoE xk y) 0 != some .eq) = false := hz
        have HZ := Lib.hid hz
        clear hz
        go_wp2_with (first | (go_at_call 38; refine (two_any _ _ hok _).mono ?_; rintro e w' ⟨rfl, rfl⟩))
        go_roundw
        case rel =>
          refine ⟨k + 1, by omega, by go_num, ?_, ?_, ?_⟩
          · rw [HT.out, HP.out]; rfl
          · rw [HT.out, HP.out]; simp [growStep, HZ.out]
          · rw [HT.out, HP.out]
            have := HM.out.skip
            rw [HP.out] at this
            simpa [growStep, HZ.out] using this
        case measure => simp [intOf]; omega
      · have hz' : (FloatKind.f64.format.order (twoE xk y) 0 != some .eq) = true := hz
        have HZ := Lib.hid hz
        clear hz
        have hnew := HM.out.push hgw (twoE xk y) (.cells #[.float .f64 (twoE xk y)] 23) cur HC1.out HC2.out (by rw [HP.out]; exact HC3.out) HC4.out (by rw [HP.out]; exact hle) hkc
        rw [HP.out] at hnew
        have HN := Lib.hid hnew
        clear hnew
        go_wp2_with (first | (go_at_call 38; refine (two_any _ _ hok _).mono ?_; rintro e w' ⟨rfl, rfl⟩) | (at_builtin; refine wpList_append_inplace rfl _ _ 22 rfl 23 i0 Try.underlying22 hi hz1 g outs.length cap rfl cur ?hgcur ⟨wr.heap.size, 0, none⟩ 1 (.float .f64 (twoE xk y)) rfl ?hu rfl ?hroom ?hfit ?_))
        case hgcur => rw [heap_alloc_old wr _ hgr]; exact HC1.out
        case hu => exact World.cell?_alloc_at _ _ _ _ rfl
        case hroom => omega
        case hfit => rw [HC2.out]; omega
        go_wp2
        go_roundw
        case rel =>
          refine ⟨k + 1, by omega, by go_num, ?_, ?_, ?_⟩
          · rw [HT.out, HP.out]; rfl
          · rw [HT.out, HP.out]; simp [growStep, HZ.out]
          · rw [HT.out, HP.out]
            simpa [growStep, HZ.out] using HN.out
        case measure => simp [intOf]; omega
    · have hkn : k = ys.length := by omega
      have howns := HM.out.owns hbg (by omega) hcapm
      have HOW := Lib.hid howns
      clear howns
      have hgrow := HM.out.grown
      have HG := Lib.hid hgrow
      clear hgrow
      have hgwr : ∃ outs xk, growSt ys x k = (outs, xk) := ⟨_, _, rfl⟩
      obtain ⟨outs, xk, hp⟩ := hgwr
      rw [hp] at hle ⊢
      have HP := Lib.hid hp
      have HK := Lib.hid hkn
      clear hp hkn
      have hgr : wr.heap.size ≥ w.heap.size := HM.out.grown.size
      have hfin : growW ys x = if nz xk then outs ++ [xk] else outs := by
        unfold growW; rw [← HK.out, HP.out]
      have HF := Lib.hid hfin
      clear hfin
      dsimp only at hle ⊢
      cases hz : nz xk
      · have hz' : (FloatKind.f64.format.order xk 0 != some .eq) = false := hz
        have HZ := Lib.hid hz
        clear hz
        go_wp2
        go_ret
        refine ⟨_, rfl, ?_, HG.out, Or.inl rfl⟩
        rw [HF.out, HZ.out]
        have := HOW.out
        rw [HP.out] at this
        simpa using this
      · have hz' : (FloatKind.f64.format.order xk 0 != some .eq) = true := hz
        have HZ := Lib.hid hz
        clear hz
        have hown0 := HOW.out
        rw [HP.out] at hown0
        have HOWN := Lib.hid (hown0.alloc (.cells #[.float .f64 xk] 23))
        clear hown0
        go_wp2_with (first | (at_builtin; refine wpList_append_own_at _ rfl _ _ 22 rfl base 23 i0 (.float .f64 0) 1 8 Try.underlying22 hi hz0 hz1 hz2 rfl (by decide) _ _ _ rfl HOWN.out ⟨wr.heap.size, 0, none⟩ 1 1 [.float .f64 xk] rfl rfl ?c1 ?c2 ?c3 ?c4 ?c5 ?_))
        case c2 => first | rfl | (simp; done)
        case c3 => unfold maxLen at *; omega
        case c4 => omega
        case c5 => first | omega | (simp; omega)
        intro v' w1 hown' hgrow' _ hat
        have H1 := Lib.hid hown'
        have H2 := Lib.hid hgrow'
        have H3 := Lib.hid hat
        clear hown' hgrow' hat
        go_wp2
        go_ret
        refine ⟨v', rfl, ?_, ?_, ?_⟩
        · rw [HF.out, HZ.out]
          have := H1.out
          simpa [flts] using this
        · have := HG.out
          have h2 := H2.out
          have h3 : w.grownBy (wr.alloc (.cells #[.float .f64 xk] 23)) (some g) := ⟨this.os, this.tape, this.output, by simp; have := this.size; omega, fun j hj hne => by rw [heap_alloc_old wr _ (Nat.lt_of_lt_of_le hj this.size)]; exact this.block j hj hne⟩
          exact h3.trans h2
        · rcases H3.out with h | h
          · left; rw [h]; rfl
          · right; exact ⟨_, h, by first | omega | (simp; omega)⟩

theorem more_nil (base : Nat) (x : Nat) (w : World) (hbase : base ≤ w.heap.size) :
    Calls Try.prog 28 #[.slice none 0 0, .float .f64 x] w fun e w' => ∃ v', e = .returned v' ∧ w'.ownsRow base 23 1 v' (growW [] x).length (flts (growW [] x)) ∧ w.grownBy w' none ∧ (v'.ownBlock = none ∨ ∃ g', v'.ownBlock = some g' ∧ w.heap.size ≤ g') := by
  obtain ⟨i0, hi, hz0, hz1, hz2⟩ := info_parts Try.info23
  have hfin : growW [] x = if nz x then [x] else [] := by unfold growW growSt; simp
  have HF := Lib.hid hfin
  clear hfin
  cases hz : nz x
  · have hz' : (FloatKind.f64.format.order x 0 != some .eq) = false := hz
    have HZ := Lib.hid hz
    clear hz
    go_enter Try.func28, Try.ntmps28
    go_wp2
    refine wp_loop_rounds 1 ?_
    rw [rounds_succ]
    go_wp2
    go_ret
    refine ⟨_, rfl, ?_, World.grownBy.refl _ _, Or.inl rfl⟩
    rw [HF.out, HZ.out]
    exact World.ownsRow_nil _ _ _ _
  · have hz' : (FloatKind.f64.format.order x 0 != some .eq) = true := hz
    have HZ := Lib.hid hz
    clear hz
    have HOWN := Lib.hid ((World.ownsRow_nil w base 23 1).alloc (.cells #[.float .f64 x] 23))
    go_enter Try.func28, Try.ntmps28
    go_wp2
    refine wp_loop_rounds 1 ?_
    rw [rounds_succ]
    go_wp2_with (first | (at_builtin; refine wpList_append_own_at _ rfl _ _ 22 rfl base 23 i0 (.float .f64 0) 1 8 Try.underlying22 hi hz0 hz1 hz2 rfl (by decide) _ _ _ rfl HOWN.out ⟨w.heap.size, 0, none⟩ 1 1 [.float .f64 x] rfl rfl ?c1 ?c2 ?c3 ?c4 ?c5 ?_))
    case c1 => exact cell_one_new _ _ _
    case c2 => simp [Value.oneCell']
    case c3 => unfold maxLen; omega
    case c4 => omega
    case c5 => first | omega | (simp; omega)
    intro v' w1 hown' hgrow' _ hat
    have H1 := Lib.hid hown'
    have H2 := Lib.hid hgrow'
    have H3 := Lib.hid hat
    clear hown' hgrow' hat
    go_wp2
    go_ret
    refine ⟨v', rfl, ?_, ?_, ?_⟩
    · rw [HF.out, HZ.out]
      have := H1.out
      simpa [flts] using this
    · exact (World.grownBy_alloc w _ none).trans H2.out
    · rcases H3.out with h | h
      · left; rw [h]; rfl
      · right; exact ⟨_, h, by first | omega | simp⟩

/-- more, whatever the expansion -/
theorem more_any (base len : Nat) (v : Value) (ys : List Nat) (x : Nat) (w : World) (hlen : len = ys.length) (hown : w.ownsRow base 23 1 v len (flts ys)) (hbase : base ≤ w.heap.size) (hm : len + 1 ≤ 17592186044415)
    (hok : GrowOk ys x) :
    Calls Try.prog 28 #[v, .float .f64 x] w fun e w' => ∃ v', e = .returned v' ∧ w'.ownsRow base 23 1 v' (growW ys x).length (flts (growW ys x)) ∧ w.grownBy w' v.ownBlock ∧ (v'.ownBlock = none ∨ v'.ownBlock = v.ownBlock ∨ ∃ g', v'.ownBlock = some g' ∧ w.heap.size ≤ g') := by
  rcases hown.2 with ⟨hv, h0⟩ | ⟨g, cap, _, hv, _⟩
  · have : ys = [] := List.length_eq_zero_iff.1 (by omega)
    subst this; subst hv
    refine (more_nil base x w hbase).mono ?_
    rintro e w' ⟨v', rfl, a, b, c⟩
    refine ⟨v', rfl, a, b, ?_⟩
    rcases c with c | c
    · exact Or.inl c
    · exact Or.inr (Or.inr c)
  · subst hv
    refine (more_some base g cap len ys x w hlen hown hm hok).mono ?_
    rintro e w' ⟨v', rfl, a, b, c⟩
    exact ⟨v', rfl, a, b, Or.inr c⟩
end Go.Proofs.Ytlegkefonpiakaa
