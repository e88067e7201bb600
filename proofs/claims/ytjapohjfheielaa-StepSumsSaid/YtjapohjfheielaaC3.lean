/- Walks: kick, the program's and the reference's. Conditions: masses on the grid, in a block of the call's own; a fit constant. -/
import Derived.Test.YtjapohjfheielaaD1
import Derived.Test.YtjapohjfheielaaB3
import Derived.StillTailTactics
import Derived.Deep.RegionHeld3
namespace Go.Proofs.Ytjapohjfheielaa
open Go.RowKit
open Ieee (FinW V dR big double wordOf deepD)

theorem cell_alloc_lt (w : World) (o : Obj) (g e : Nat) (h : g < w.heap.size) : (w.alloc o).cell? ⟨g, e, none⟩ = w.cell? ⟨g, e, none⟩ := World.cell?_of_block (w := w) (a := ⟨g, e, none⟩) (Below.heap_alloc w o g h)
theorem cell_set_ne (w : World) (b o : Nat) (v : Value) (g e : Nat) (h : g ≠ b) : (w.setCell ⟨b, o, none⟩ v).cell? ⟨g, e, none⟩ = w.cell? ⟨g, e, none⟩ := World.cell?_of_block (w := w) (a := ⟨g, e, none⟩) (Below.heap_setCell _ _ _ _ h)
theorem bcell {W w1 : World} (hb : Below W.heap.size W w1) : (∀ b o, b < W.heap.size → w1.cell? ⟨b, o, none⟩ = W.cell? ⟨b, o, none⟩) ∧ (∀ b o, b < W.heap.size → w1.frozen? ⟨b, o, none⟩ = W.frozen? ⟨b, o, none⟩) :=
  ⟨fun b o h => hb.cell (p := ⟨b, o, none⟩) h, fun b o h => hb.frozen (p := ⟨b, o, none⟩) h⟩

/-- three numbers in a block that is another than g -/
def Three (W : World) (g pb : Nat) (F : Nat → Int) : Prop := pb ≠ g ∧ pb < W.heap.size ∧ ∀ c, c < 3 → W.cell? ⟨pb, c, none⟩ = some (.int .i64 (F c))
def After (w : World) (g n cap : Nat) (T : Nat → Int) (F : Nat → Int) (W : World) (pb : Nat) : Prop := Own W g n cap T ∧ Touch g w W ∧ Three W g pb F
theorem after_call {w w0 w1 : World} {g n cap : Nat} {T F : Nat → Int} (ho : Own w0 g n cap T) (ht : Touch g w w0) (hb : Below w0.heap.size w0 w1) {P0 P1 P2 : Int} (h0 : P0 = F 0) (h1 : P1 = F 1) (h2 : P2 = F 2) :
    After w g n cap T F (w1.alloc (.cells #[.int .i64 P0, .int .i64 P1, .int .i64 P2] 26)) w1.heap.size := by
  have hlt := ho.lt
  have hs := hb.size
  refine ⟨(ho.below hb).below ((Below.refl _ _).alloc (Nat.le_refl _) _), (ht.trans (Touch.ofBelow hb)).trans (Touch.ofBelow ((Below.refl _ _).alloc (Nat.le_refl _) _)), by omega, by simp, fun c hc => ?_⟩
  rw [cell_of_row _ _ _ _ _ (0, 0) (heap_alloc_new w1 _), h0, h1, h2]
  match c, hc with
  | 0, _ => rfl
  | 1, _ => rfl
  | 2, _ => rfl
theorem Three.set {W : World} {g pb : Nat} {F : Nat → Int} (h : Three W g pb F) (j : Nat) (v : Value) : Three (W.setCell ⟨g, j, none⟩ v) g pb F :=
  ⟨h.1, by simpa [World.setCell] using h.2.1, fun c hc => by rw [cell_set_ne _ _ _ _ _ _ h.1]; exact h.2.2 c hc⟩
theorem below_undrew {B : Nat} {a w : World} (h : Below B a.drew w) : Below B a w := ⟨h.os, h.tape, h.output, h.size, h.block⟩
theorem after_alloc {w wo w1 : World} {g n cap : Nat} {T F : Nat → Int} (ho : Own wo g n cap T) (ht : Touch g w wo) {a b c : Int} {o : Obj} (hobj : o = .cells #[.int .i64 a, .int .i64 b, .int .i64 c] 26) (hb : Below (wo.alloc o).heap.size (wo.alloc o) w1) {P0 P1 P2 : Int} (h0 : P0 = F 0) (h1 : P1 = F 1) (h2 : P2 = F 2) :
    After w g n cap T F (((w1.setCell ⟨wo.heap.size, 0, none⟩ (.int .i64 P0)).setCell ⟨wo.heap.size, 1, none⟩ (.int .i64 P1)).setCell ⟨wo.heap.size, 2, none⟩ (.int .i64 P2)) wo.heap.size := by
  have hlt := ho.lt
  have hne : g ≠ wo.heap.size := by omega
  have hs := hb.size
  have hs1 : (wo.alloc o).heap.size = wo.heap.size + 1 := by simp
  have ho1 : Own w1 g n cap T := (ho.below ((Below.refl _ _).alloc (Nat.le_refl _) _)).below hb
  have hblk : w1.heap[wo.heap.size]? = some (.cells #[.int .i64 a, .int .i64 b, .int .i64 c] 26 (0, 0)) := by
    rw [hb.block _ (by omega), ← hobj]; exact heap_alloc_new wo o
  have ht1 : Touch g w w1 := (ht.trans (Touch.ofBelow ((Below.refl _ _).alloc (Nat.le_refl _) o))).trans (Touch.ofBelow hb)
  have hown : ∀ (u : World) (j : Nat) (v : Value), Own u g n cap T → Own (u.setCell ⟨wo.heap.size, j, none⟩ v) g n cap T := fun u j v ⟨cur, q1, q2⟩ => ⟨cur, by rw [Below.heap_setCell _ _ _ _ hne]; exact q1, q2⟩
  have htch : ∀ (u : World) (j : Nat) (v : Value), Touch g w u → w.heap.size ≤ wo.heap.size → Touch g w (u.setCell ⟨wo.heap.size, j, none⟩ v) := fun u j v h hle =>
    ⟨h.os, h.tape, h.output, by simpa [World.setCell] using h.size, fun q hq hne2 => by rw [Below.heap_setCell _ _ _ _ (by simp only; omega)]; exact h.block q hq hne2⟩
  have hle := ht.size
  refine ⟨hown _ _ _ (hown _ _ _ (hown _ _ _ ho1)), htch _ _ _ (htch _ _ _ (htch _ _ _ ht1 hle) hle) hle, fun e => hne e.symm, by simp [World.setCell]; omega, fun q hq => ?_⟩
  have hfin : (((w1.setCell ⟨wo.heap.size, 0, none⟩ (.int .i64 P0)).setCell ⟨wo.heap.size, 1, none⟩ (.int .i64 P1)).setCell ⟨wo.heap.size, 2, none⟩ (.int .i64 P2)).heap[wo.heap.size]? = some (.cells #[.int .i64 P0, .int .i64 P1, .int .i64 P2] 26 (0, 0)) := by
    simp only [World.setCell, Array.getElem?_modify, if_true, hblk, Option.map_some]
    rfl
  rw [cell_of_row _ _ _ _ _ (0, 0) hfin, h0, h1, h2]
  match q, hq with
  | 0, _ => rfl
  | 1, _ => rfl
  | 2, _ => rfl

theorem ok_pull {n : Nat} {S : Nat → Int} (hok : okAll n S) {i j : Nat} (hi : i < n) (hj : j < n) : (1 ≤ S (i * 7) ∧ S (i * 7) ≤ 1048576) ∧ (1 ≤ S (j * 7) ∧ S (j * 7) ≤ 1048576) ∧
    (-2199023255552 ≤ S (j * 7 + 1) - S (i * 7 + 1) ∧ S (j * 7 + 1) - S (i * 7 + 1) ≤ 2199023255552) ∧ (-2199023255552 ≤ S (j * 7 + 2) - S (i * 7 + 2) ∧ S (j * 7 + 2) - S (i * 7 + 2) ≤ 2199023255552) ∧ (-2199023255552 ≤ S (j * 7 + 3) - S (i * 7 + 3) ∧ S (j * 7 + 3) - S (i * 7 + 3) ≤ 2199023255552) := by
  obtain ⟨m1, x1⟩ := hok i hi
  obtain ⟨m2, x2⟩ := hok j hj
  have a0 := (x1 0 (by omega)).1
  have a1 := (x1 1 (by omega)).1
  have a2 := (x1 2 (by omega)).1
  have b0 := (x2 0 (by omega)).1
  have b1 := (x2 1 (by omega)).1
  have b2 := (x2 2 (by omega)).1
  unfold okX at a0 a1 a2 b0 b1 b2
  simp only [Nat.add_zero] at a0 b0
  rw [show i * 7 + 1 + 1 = i * 7 + 2 from rfl] at a1
  rw [show i * 7 + 1 + 2 = i * 7 + 3 from rfl] at a2
  rw [show j * 7 + 1 + 1 = j * 7 + 2 from rfl] at b1
  rw [show j * 7 + 1 + 2 = j * 7 + 3 from rfl] at b2
  exact ⟨m1, m2, by omega, by omega, by omega⟩
/-- what stands in one number of one kick -/
theorem kick_ok {gw : Nat} {h : Int} {n : Nat} {S : Nat → Int} {i j k : Nat} (hn : n ≤ 8) (hh : h = 1 ∨ h = -1) (hok : okAll n S) (hij : i < j) (hj : j < n) (hk : k < 3) (f : Int → Int) (hf : ∀ z, -9223372036854775808 ≤ z ∧ z ≤ 9223372036854775807 → f z = z) :
    f (h * fr gw S i j k) = h * fr gw S i j k ∧ f (kickAt gw h n S i j k (i * 7 + 4 + k) + h * fr gw S i j k) = kickAt gw h n S i j k (i * 7 + 4 + k) + h * fr gw S i j k ∧
    f (kickAt gw h n S i j k (j * 7 + 4 + k) - h * fr gw S i j k) = kickAt gw h n S i j k (j * 7 + 4 + k) - h * fr gw S i j k := by
  have h1 := kick_bound (g := gw) (i := i) (j := j) (k := k) hn hh hok (show i < n by omega) hk
  have h2 := kick_bound (g := gw) (i := i) (j := j) (k := k) hn hh hok hj hk
  have h3 := fr_le gw S i j k
  have h4 : (h * fr gw S i j k).natAbs ≤ 8589934593 := by
    rcases hh with rfl | rfl
    · rw [Int.one_mul]; exact h3
    · rw [Int.neg_mul, Int.one_mul, Int.natAbs_neg]; exact h3
  exact ⟨hf _ (by omega), hf _ (by omega), hf _ (by omega)⟩

attribute [local irreducible] Ieee.V Ieee.Format.rnd fv Ieee.big Ieee.deepD flW sqW hU rN pk kickAt kickS

set_option maxHeartbeats 4000000 in
theorem kickP_any (g n cap gw : Nat) (S : Nat → Int) (h : Int) (w : World) (ho : Own w g n cap S) (hn : n ≤ 8) (hok : okAll n S) (hh : h = 1 ∨ h = -1) (hg : FinW gw) (g0 : 0 ≤ V gw) (g1 : V gw ≤ 2 ^ (40 + deepD)) :
    Calls Try.prog 27 #[.slice (some ⟨g, 0, none⟩) n cap, .float .f64 gw, .int .i64 h] w fun e w' => e = .returned (.tuple #[]) ∧ Own w' g n cap (kickS gw h n S) ∧ Touch g w w' := by
  have HO := Lib.hid ho
  have HK := Lib.hid hok
  have HH := Lib.hid hh
  have HG := Lib.hid (And.intro hg (And.intro g0 g1))
  clear ho hok hh hg g0 g1
  go_enter Try.func27, Try.ntmps27
  go_wp2
  go_loopw [12] (fun vi wr => ∃ i : Nat, i ≤ n ∧ vi = .int .i64 i ∧ Own wr g n cap (kickAt gw h n S i (i + 1) 0) ∧ Touch g w wr) (fun vi _ => n - (intOf vi).toNat)
  case atStart => exact ⟨0, Nat.zero_le _, rfl, HO.out.congr (fun j _ => kick_start), Touch.refl _ _⟩
  case round =>
    obtain ⟨i, hi, rfl, hw, ht⟩ := hrel
    have HW := Lib.hid hw
    have HT := Lib.hid ht
    clear hw ht
    by_cases hin : i < n
    · obtain ⟨wo, rfl⟩ : ∃ wo : World, wo = wr := ⟨_, rfl⟩
      go_wp2
      go_loopw [7] (fun vj wr => ∃ j : Nat, j ≤ n ∧ i < j ∧ vj = .int .i64 j ∧ Own wr g n cap (kickAt gw h n S i j 0) ∧ Touch g w wr) (fun vj _ => n - (intOf vj).toNat)
      case atStart => exact ⟨i + 1, by omega, by omega, by go_num, HW.out, HT.out⟩
      case round =>
        obtain ⟨j, hj, hij, rfl, hw, ht⟩ := hrel
        have HW2 := Lib.hid hw
        have HT2 := Lib.hid ht
        clear hw ht
        by_cases hjn : j < n
        · obtain ⟨wo, rfl⟩ : ∃ wo : World, wo = wr := ⟨_, rfl⟩
          have hl := HW2.out.lies
          have hp := ok_pull HK.out hin hjn
          have hfr : fr gw S i j 0 = pk gw (S (i * 7) * S (j * 7)) (S (j * 7 + 1) - S (i * 7 + 1)) (S (j * 7 + 2) - S (i * 7 + 2)) (S (j * 7 + 3) - S (i * 7 + 3)) (S (j * 7 + 1) - S (i * 7 + 1)) ∧
              fr gw S i j 1 = pk gw (S (i * 7) * S (j * 7)) (S (j * 7 + 1) - S (i * 7 + 1)) (S (j * 7 + 2) - S (i * 7 + 2)) (S (j * 7 + 3) - S (i * 7 + 3)) (S (j * 7 + 2) - S (i * 7 + 2)) ∧
              fr gw S i j 2 = pk gw (S (i * 7) * S (j * 7)) (S (j * 7 + 1) - S (i * 7 + 1)) (S (j * 7 + 2) - S (i * 7 + 2)) (S (j * 7 + 3) - S (i * 7 + 3)) (S (j * 7 + 3) - S (i * 7 + 3)) := ⟨rfl, rfl, rfl⟩
          have a0 := hl (i * 7 + 0) (by omega)
          rw [kickAt_low _ _ _ _ _ _ _ _ _ (by omega)] at a0
          rw [Nat.zero_add] at a0
          rw [Nat.add_zero] at a0
          obtain ⟨am, ham⟩ : ∃ z, S (i * 7) = z := ⟨_, rfl⟩
          rw [ham] at a0 hfr hp
          have a1 := hl (i * 7 + 1) (by omega)
          rw [kickAt_low _ _ _ _ _ _ _ _ _ (by omega)] at a1
          rw [Nat.zero_add] at a1
          obtain ⟨ax0, hax0⟩ : ∃ z, S (i * 7 + 1) = z := ⟨_, rfl⟩
          rw [hax0] at a1 hfr hp
          have a2 := hl (i * 7 + 2) (by omega)
          rw [kickAt_low _ _ _ _ _ _ _ _ _ (by omega)] at a2
          rw [Nat.zero_add] at a2
          obtain ⟨ax1, hax1⟩ : ∃ z, S (i * 7 + 2) = z := ⟨_, rfl⟩
          rw [hax1] at a2 hfr hp
          have a3 := hl (i * 7 + 3) (by omega)
          rw [kickAt_low _ _ _ _ _ _ _ _ _ (by omega)] at a3
          rw [Nat.zero_add] at a3
          obtain ⟨ax2, hax2⟩ : ∃ z, S (i * 7 + 3) = z := ⟨_, rfl⟩
          rw [hax2] at a3 hfr hp
          have a4 := hl (i * 7 + 4) (by omega)
          rw [Nat.zero_add] at a4
          obtain ⟨ap0, hap0⟩ : ∃ z, kickAt gw h n S i j 0 (i * 7 + 4) = z := ⟨_, rfl⟩
          rw [hap0] at a4
          have a5 := hl (i * 7 + 5) (by omega)
          rw [Nat.zero_add] at a5
          obtain ⟨ap1, hap1⟩ : ∃ z, kickAt gw h n S i j 0 (i * 7 + 5) = z := ⟨_, rfl⟩
          rw [hap1] at a5
          have a6 := hl (i * 7 + 6) (by omega)
          rw [Nat.zero_add] at a6
          obtain ⟨ap2, hap2⟩ : ∃ z, kickAt gw h n S i j 0 (i * 7 + 6) = z := ⟨_, rfl⟩
          rw [hap2] at a6
          have b0 := hl (j * 7 + 0) (by omega)
          rw [kickAt_low _ _ _ _ _ _ _ _ _ (by omega)] at b0
          rw [Nat.zero_add] at b0
          rw [Nat.add_zero] at b0
          obtain ⟨bm, hbm⟩ : ∃ z, S (j * 7) = z := ⟨_, rfl⟩
          rw [hbm] at b0 hfr hp
          have b1 := hl (j * 7 + 1) (by omega)
          rw [kickAt_low _ _ _ _ _ _ _ _ _ (by omega)] at b1
          rw [Nat.zero_add] at b1
          obtain ⟨bx0, hbx0⟩ : ∃ z, S (j * 7 + 1) = z := ⟨_, rfl⟩
          rw [hbx0] at b1 hfr hp
          have b2 := hl (j * 7 + 2) (by omega)
          rw [kickAt_low _ _ _ _ _ _ _ _ _ (by omega)] at b2
          rw [Nat.zero_add] at b2
          obtain ⟨bx1, hbx1⟩ : ∃ z, S (j * 7 + 2) = z := ⟨_, rfl⟩
          rw [hbx1] at b2 hfr hp
          have b3 := hl (j * 7 + 3) (by omega)
          rw [kickAt_low _ _ _ _ _ _ _ _ _ (by omega)] at b3
          rw [Nat.zero_add] at b3
          obtain ⟨bx2, hbx2⟩ : ∃ z, S (j * 7 + 3) = z := ⟨_, rfl⟩
          rw [hbx2] at b3 hfr hp
          have b4 := hl (j * 7 + 4) (by omega)
          rw [Nat.zero_add] at b4
          obtain ⟨bp0, hbp0⟩ : ∃ z, kickAt gw h n S i j 0 (j * 7 + 4) = z := ⟨_, rfl⟩
          rw [hbp0] at b4
          have b5 := hl (j * 7 + 5) (by omega)
          rw [Nat.zero_add] at b5
          obtain ⟨bp1, hbp1⟩ : ∃ z, kickAt gw h n S i j 0 (j * 7 + 5) = z := ⟨_, rfl⟩
          rw [hbp1] at b5
          have b6 := hl (j * 7 + 6) (by omega)
          rw [Nat.zero_add] at b6
          obtain ⟨bp2, hbp2⟩ : ∃ z, kickAt gw h n S i j 0 (j * 7 + 6) = z := ⟨_, rfl⟩
          rw [hbp2] at b6
          obtain ⟨hm1, hm2, hd0, hd1, hd2⟩ := hp
          have hpull := fun u => pullP_any am ax0 ax1 ax2 ap0 ap1 ap2 bm bx0 bx1 bx2 bp0 bp1 bp2 gw u HG.out.1 HG.out.2.1 HG.out.2.2 hm1 hm2 hd0 hd1 hd2
          rw [← hfr.1, ← hfr.2.1, ← hfr.2.2] at hpull
          clear hfr hm1 hm2 hd0 hd1 hd2 ham hax0 hax1 hax2 hap0 hap1 hap2 hbm hbx0 hbx1 hbx2 hbp0 hbp1 hbp2
          have hgl := HW2.out.lt
          have hgne : g ≠ wo.heap.size := by omega
          obtain ⟨P0, hP0⟩ : ∃ z, fr gw S i j 0 = z := ⟨_, rfl⟩
          obtain ⟨P1, hP1⟩ : ∃ z, fr gw S i j 1 = z := ⟨_, rfl⟩
          obtain ⟨P2, hP2⟩ : ∃ z, fr gw S i j 2 = z := ⟨_, rfl⟩
          rw [hP0, hP1, hP2] at hpull
          have HP0 := Lib.hid hP0
          have HP1 := Lib.hid hP1
          have HP2 := Lib.hid hP2
          have HPU := Lib.hid hpull
          clear hl hP0 hP1 hP2 hpull
          go_wp2
          go_region_held3 (fun w' => w'.cell? ⟨g, i * 7, none⟩ = some (.int .i64 am) ∧ w'.cell? ⟨g, i * 7 + 1, none⟩ = some (.int .i64 ax0) ∧ w'.cell? ⟨g, i * 7 + 2, none⟩ = some (.int .i64 ax1) ∧ w'.cell? ⟨g, i * 7 + 3, none⟩ = some (.int .i64 ax2) ∧ w'.cell? ⟨g, i * 7 + 4, none⟩ = some (.int .i64 ap0) ∧ w'.cell? ⟨g, i * 7 + 5, none⟩ = some (.int .i64 ap1) ∧ w'.cell? ⟨g, i * 7 + 6, none⟩ = some (.int .i64 ap2) ∧ w'.cell? ⟨g, j * 7, none⟩ = some (.int .i64 bm) ∧ w'.cell? ⟨g, j * 7 + 1, none⟩ = some (.int .i64 bx0) ∧ w'.cell? ⟨g, j * 7 + 2, none⟩ = some (.int .i64 bx1) ∧ w'.cell? ⟨g, j * 7 + 3, none⟩ = some (.int .i64 bx2) ∧ w'.cell? ⟨g, j * 7 + 4, none⟩ = some (.int .i64 bp0) ∧ w'.cell? ⟨g, j * 7 + 5, none⟩ = some (.int .i64 bp1) ∧ w'.cell? ⟨g, j * 7 + 6, none⟩ = some (.int .i64 bp2))
            (first | go_keep | exact ⟨by (repeat rw [cell_set_ne _ _ _ _ _ _ hgne]); assumption, by (repeat rw [cell_set_ne _ _ _ _ _ _ hgne]); assumption, by (repeat rw [cell_set_ne _ _ _ _ _ _ hgne]); assumption, by (repeat rw [cell_set_ne _ _ _ _ _ _ hgne]); assumption, by (repeat rw [cell_set_ne _ _ _ _ _ _ hgne]); assumption, by (repeat rw [cell_set_ne _ _ _ _ _ _ hgne]); assumption, by (repeat rw [cell_set_ne _ _ _ _ _ _ hgne]); assumption, by (repeat rw [cell_set_ne _ _ _ _ _ _ hgne]); assumption, by (repeat rw [cell_set_ne _ _ _ _ _ _ hgne]); assumption, by (repeat rw [cell_set_ne _ _ _ _ _ _ hgne]); assumption, by (repeat rw [cell_set_ne _ _ _ _ _ _ hgne]); assumption, by (repeat rw [cell_set_ne _ _ _ _ _ _ hgne]); assumption, by (repeat rw [cell_set_ne _ _ _ _ _ _ hgne]); assumption, by (repeat rw [cell_set_ne _ _ _ _ _ _ hgne]); assumption⟩)
            ((go_at_call 32
              refine (HPU.out _).mono ?_
              rintro e w1 ⟨rfl, hb⟩
              obtain ⟨hc, hf⟩ := bcell hb
              have ka0 : w1.cell? ⟨g, i * 7, none⟩ = some (.int .i64 am) := by rw [hc _ _ (by first | (simp; done) | (simp; omega) | omega)]; first | (simpa using a0) | (simpa [cell_alloc_lt, hgl] using a0)
              have ka1 : w1.cell? ⟨g, i * 7 + 1, none⟩ = some (.int .i64 ax0) := by rw [hc _ _ (by first | (simp; done) | (simp; omega) | omega)]; first | (simpa using a1) | (simpa [cell_alloc_lt, hgl] using a1)
              have ka2 : w1.cell? ⟨g, i * 7 + 2, none⟩ = some (.int .i64 ax1) := by rw [hc _ _ (by first | (simp; done) | (simp; omega) | omega)]; first | (simpa using a2) | (simpa [cell_alloc_lt, hgl] using a2)
              have ka3 : w1.cell? ⟨g, i * 7 + 3, none⟩ = some (.int .i64 ax2) := by rw [hc _ _ (by first | (simp; done) | (simp; omega) | omega)]; first | (simpa using a3) | (simpa [cell_alloc_lt, hgl] using a3)
              have ka4 : w1.cell? ⟨g, i * 7 + 4, none⟩ = some (.int .i64 ap0) := by rw [hc _ _ (by first | (simp; done) | (simp; omega) | omega)]; first | (simpa using a4) | (simpa [cell_alloc_lt, hgl] using a4)
              have ka5 : w1.cell? ⟨g, i * 7 + 5, none⟩ = some (.int .i64 ap1) := by rw [hc _ _ (by first | (simp; done) | (simp; omega) | omega)]; first | (simpa using a5) | (simpa [cell_alloc_lt, hgl] using a5)
              have ka6 : w1.cell? ⟨g, i * 7 + 6, none⟩ = some (.int .i64 ap2) := by rw [hc _ _ (by first | (simp; done) | (simp; omega) | omega)]; first | (simpa using a6) | (simpa [cell_alloc_lt, hgl] using a6)
              have kb0 : w1.cell? ⟨g, j * 7, none⟩ = some (.int .i64 bm) := by rw [hc _ _ (by first | (simp; done) | (simp; omega) | omega)]; first | (simpa using b0) | (simpa [cell_alloc_lt, hgl] using b0)
              have kb1 : w1.cell? ⟨g, j * 7 + 1, none⟩ = some (.int .i64 bx0) := by rw [hc _ _ (by first | (simp; done) | (simp; omega) | omega)]; first | (simpa using b1) | (simpa [cell_alloc_lt, hgl] using b1)
              have kb2 : w1.cell? ⟨g, j * 7 + 2, none⟩ = some (.int .i64 bx1) := by rw [hc _ _ (by first | (simp; done) | (simp; omega) | omega)]; first | (simpa using b2) | (simpa [cell_alloc_lt, hgl] using b2)
              have kb3 : w1.cell? ⟨g, j * 7 + 3, none⟩ = some (.int .i64 bx2) := by rw [hc _ _ (by first | (simp; done) | (simp; omega) | omega)]; first | (simpa using b3) | (simpa [cell_alloc_lt, hgl] using b3)
              have kb4 : w1.cell? ⟨g, j * 7 + 4, none⟩ = some (.int .i64 bp0) := by rw [hc _ _ (by first | (simp; done) | (simp; omega) | omega)]; first | (simpa using b4) | (simpa [cell_alloc_lt, hgl] using b4)
              have kb5 : w1.cell? ⟨g, j * 7 + 5, none⟩ = some (.int .i64 bp1) := by rw [hc _ _ (by first | (simp; done) | (simp; omega) | omega)]; first | (simpa using b5) | (simpa [cell_alloc_lt, hgl] using b5)
              have kb6 : w1.cell? ⟨g, j * 7 + 6, none⟩ = some (.int .i64 bp2) := by rw [hc _ _ (by first | (simp; done) | (simp; omega) | omega)]; first | (simpa using b6) | (simpa [cell_alloc_lt, hgl] using b6)
              have hg1 : g < w1.heap.size := Nat.lt_of_lt_of_le (by first | exact hgl | (simp; omega)) hb.size))
          all_goals have HB := Lib.hid hb
          all_goals clear hb hc hf ka0 ka1 ka2 ka3 ka4 ka5 ka6 kb0 kb1 kb2 kb3 kb4 kb5 kb6 a0 a1 a2 a3 a4 a5 a6 b0 b1 b2 b3 b4 b5 b6
          all_goals go_wp2_with fail
          · have HA := after_call (F := fun c => fr gw S i j c) (show Own wo.drew g n cap (kickAt gw h n S i j 0) from HW2.out) (HT2.out.drewN 1) HB.out HP0.out.symm HP1.out.symm HP2.out.symm
            revert HA
            generalize World.alloc w1 _ = W1
            generalize w1.heap.size = pb
            intro HA
            replace HA := Lib.hid HA
            clear HB hg1
            clear HP0 HP1 HP2 HPU HW2 HT2 HW HT hgl hgne
            go_loopw [33] (fun vk wr => ∃ k : Nat, k ≤ 3 ∧ vk = .int .i64 k ∧ Own wr g n cap (kickAt gw h n S i j k) ∧ Touch g w wr ∧ Three wr g pb (fun c => fr gw S i j c)) (fun vk _ => 3 - (intOf vk).toNat)
            case atStart => exact ⟨0, Nat.zero_le _, rfl, HA.out.1, HA.out.2.1, HA.out.2.2⟩
            case round =>
              obtain ⟨k, hk, rfl, hw, ht, h3⟩ := hrel
              have HW3 := Lib.hid hw
              have HT3 := Lib.hid ht
              have H3 := Lib.hid h3
              clear hw ht h3
              by_cases hk3 : k < 3
              · have hl := HW3.out.lies
                have ci := hl (i * 7 + 4 + k) (by omega)
                have cj := hl (j * 7 + 4 + k) (by omega)
                have cq := H3.out.2.2 k hk3
                have fi := HW3.out.free (i * 7 + 4 + k)
                rw [Nat.zero_add] at ci cj
                obtain ⟨w1, w2, w3⟩ := kick_ok (gw := gw) (k := k) hn HH.out HK.out hij hjn hk3 IntKind.i64.wrap (fun z hz => IntWalk.i64_in z hz)
                obtain ⟨w4, w5, w6⟩ := kick_ok (gw := gw) (k := k) hn HH.out HK.out hij hjn hk3 wrap64 (fun z hz => IntWalk.wrap64_in z hz)
                have HST : Hid (∀ e, kickAt gw h n S i j (k + 1) e = upd (upd (kickAt gw h n S i j k) (i * 7 + 4 + k) (kickAt gw h n S i j k (i * 7 + 4 + k) + h * fr gw S i j k)) (j * 7 + 4 + k) (kickAt gw h n S i j k (j * 7 + 4 + k) - h * fr gw S i j k) e) :=
                  Lib.hid (fun e => (kick_step hij hjn hk3 e).symm)
                obtain ⟨A, hA⟩ : ∃ z, kickAt gw h n S i j k (i * 7 + 4 + k) = z := ⟨_, rfl⟩
                obtain ⟨B, hB⟩ : ∃ z, kickAt gw h n S i j k (j * 7 + 4 + k) = z := ⟨_, rfl⟩
                obtain ⟨q, hq⟩ : ∃ z, fr gw S i j k = z := ⟨_, rfl⟩
                rw [hA] at ci w2 w5
                rw [hB] at cj w3 w6
                rw [hq] at w1 w2 w3 w4 w5 w6
                replace cq : wr.cell? ⟨pb, k, none⟩ = some (.int .i64 q) := by rw [← hq]; exact cq
                rw [hA, hB, hq] at HST
                obtain ⟨D, hD⟩ : ∃ z, h * q = z := ⟨_, rfl⟩
                rw [hD] at w1 w2 w3 w4 w5 w6 HST
                have HQ := Lib.hid hq
                have HBB := Lib.hid hB
                have hbm := HST
                clear hl hA hB hq hbm
                have O2 := Lib.hid ((HW3.out.drewN 1).set (i * 7 + 4 + k) (A + D))
                have T2 := Lib.hid ((HT3.out.drewN 1).set (i * 7 + 4 + k) (.int .i64 (A + D)))
                have Q2 := Lib.hid (Three.set (W := wr.drew) H3.out (i * 7 + 4 + k) (.int .i64 (A + D)))
                have hpg : pb ≠ g := H3.out.1
                go_wp2
                go_still_tail 16, (by kernel_rfl)
                change wpList _ _ _ _ _ wr.drew
                go_wp2
                clear ci cj cq fi
                revert O2 T2 Q2
                show Hid (Own (wr.setCell ⟨g, i * 7 + 4 + k, none⟩ (.int .i64 (A + D))).drew _ _ _ _) → Hid (Touch g w (wr.setCell ⟨g, i * 7 + 4 + k, none⟩ (.int .i64 (A + D))).drew) → Hid (Three (wr.setCell ⟨g, i * 7 + 4 + k, none⟩ (.int .i64 (A + D))).drew _ _ _) → _
                generalize (wr.setCell ⟨g, i * 7 + 4 + k, none⟩ (.int .i64 (A + D))).drew = w2x
                intro O2 T2 Q2
                have cj := O2.out.lies (j * 7 + 4 + k) (by omega)
                have cq := Q2.out.2.2 k hk3
                have fj := O2.out.free (j * 7 + 4 + k)
                rw [Nat.zero_add, show upd (kickAt gw h n S i j k) (i * 7 + 4 + k) (A + D) (j * 7 + 4 + k) = B from by unfold upd; rw [if_neg (by omega)]; exact HBB.out] at cj
                replace cq : w2x.cell? ⟨pb, k, none⟩ = some (.int .i64 q) := by rw [← HQ.out]; exact cq
                go_wp2
                go_still_tail 16, (by kernel_rfl)
                change wpList _ _ _ _ _ w2x.drew
                go_wp2
                go_roundw
                case rel => exact ⟨k + 1, by omega, by go_num, ((O2.out.drewN 1).set (j * 7 + 4 + k) (B - D)).congr (fun e _ => HST.out e), (T2.out.drewN 1).set _ _, Three.set (W := w2x.drew) Q2.out _ _⟩
                case measure => first | (simp [intOf]; done) | (simp [intOf]; omega)
              · have hk4 : k = 3 := by omega
                subst hk4
                go_wp2
                go_roundw
                case rel => exact ⟨j + 1, by omega, by omega, by go_num, HW3.out.congr (fun e he => kick_next he), HT3.out⟩
                case measure => first | (simp [intOf]; done) | (simp [intOf]; omega)
          · have HA := after_alloc (F := fun c => fr gw S i j c) (show Own wo g n cap (kickAt gw h n S i j 0) from HW2.out) HT2.out rfl (below_undrew HB.out) HP0.out.symm HP1.out.symm HP2.out.symm
            revert HA
            generalize World.setCell (World.setCell (World.setCell w1 _ _) _ _) _ _ = W1
            generalize wo.heap.size = pb
            intro HA
            replace HA := Lib.hid HA
            clear HB hg1
            clear HP0 HP1 HP2 HPU HW2 HT2 HW HT hgl hgne
            go_loopw [33] (fun vk wr => ∃ k : Nat, k ≤ 3 ∧ vk = .int .i64 k ∧ Own wr g n cap (kickAt gw h n S i j k) ∧ Touch g w wr ∧ Three wr g pb (fun c => fr gw S i j c)) (fun vk _ => 3 - (intOf vk).toNat)
            case atStart => exact ⟨0, Nat.zero_le _, rfl, HA.out.1, HA.out.2.1, HA.out.2.2⟩
            case round =>
              obtain ⟨k, hk, rfl, hw, ht, h3⟩ := hrel
              have HW3 := Lib.hid hw
              have HT3 := Lib.hid ht
              have H3 := Lib.hid h3
              clear hw ht h3
              by_cases hk3 : k < 3
              · have hl := HW3.out.lies
                have ci := hl (i * 7 + 4 + k) (by omega)
                have cj := hl (j * 7 + 4 + k) (by omega)
                have cq := H3.out.2.2 k hk3
                have fi := HW3.out.free (i * 7 + 4 + k)
                rw [Nat.zero_add] at ci cj
                obtain ⟨w1, w2, w3⟩ := kick_ok (gw := gw) (k := k) hn HH.out HK.out hij hjn hk3 IntKind.i64.wrap (fun z hz => IntWalk.i64_in z hz)
                obtain ⟨w4, w5, w6⟩ := kick_ok (gw := gw) (k := k) hn HH.out HK.out hij hjn hk3 wrap64 (fun z hz => IntWalk.wrap64_in z hz)
                have HST : Hid (∀ e, kickAt gw h n S i j (k + 1) e = upd (upd (kickAt gw h n S i j k) (i * 7 + 4 + k) (kickAt gw h n S i j k (i * 7 + 4 + k) + h * fr gw S i j k)) (j * 7 + 4 + k) (kickAt gw h n S i j k (j * 7 + 4 + k) - h * fr gw S i j k) e) :=
                  Lib.hid (fun e => (kick_step hij hjn hk3 e).symm)
                obtain ⟨A, hA⟩ : ∃ z, kickAt gw h n S i j k (i * 7 + 4 + k) = z := ⟨_, rfl⟩
                obtain ⟨B, hB⟩ : ∃ z, kickAt gw h n S i j k (j * 7 + 4 + k) = z := ⟨_, rfl⟩
                obtain ⟨q, hq⟩ : ∃ z, fr gw S i j k = z := ⟨_, rfl⟩
                rw [hA] at ci w2 w5
                rw [hB] at cj w3 w6
                rw [hq] at w1 w2 w3 w4 w5 w6
                replace cq : wr.cell? ⟨pb, k, none⟩ = some (.int .i64 q) := by rw [← hq]; exact cq
                rw [hA, hB, hq] at HST
                obtain ⟨D, hD⟩ : ∃ z, h * q = z := ⟨_, rfl⟩
                rw [hD] at w1 w2 w3 w4 w5 w6 HST
                have HQ := Lib.hid hq
                have HBB := Lib.hid hB
                have hbm := HST
                clear hl hA hB hq hbm
                have O2 := Lib.hid ((HW3.out.drewN 1).set (i * 7 + 4 + k) (A + D))
                have T2 := Lib.hid ((HT3.out.drewN 1).set (i * 7 + 4 + k) (.int .i64 (A + D)))
                have Q2 := Lib.hid (Three.set (W := wr.drew) H3.out (i * 7 + 4 + k) (.int .i64 (A + D)))
                have hpg : pb ≠ g := H3.out.1
                go_wp2
                go_still_tail 16, (by kernel_rfl)
                change wpList _ _ _ _ _ wr.drew
                go_wp2
                clear ci cj cq fi
                revert O2 T2 Q2
                show Hid (Own (wr.setCell ⟨g, i * 7 + 4 + k, none⟩ (.int .i64 (A + D))).drew _ _ _ _) → Hid (Touch g w (wr.setCell ⟨g, i * 7 + 4 + k, none⟩ (.int .i64 (A + D))).drew) → Hid (Three (wr.setCell ⟨g, i * 7 + 4 + k, none⟩ (.int .i64 (A + D))).drew _ _ _) → _
                generalize (wr.setCell ⟨g, i * 7 + 4 + k, none⟩ (.int .i64 (A + D))).drew = w2x
                intro O2 T2 Q2
                have cj := O2.out.lies (j * 7 + 4 + k) (by omega)
                have cq := Q2.out.2.2 k hk3
                have fj := O2.out.free (j * 7 + 4 + k)
                rw [Nat.zero_add, show upd (kickAt gw h n S i j k) (i * 7 + 4 + k) (A + D) (j * 7 + 4 + k) = B from by unfold upd; rw [if_neg (by omega)]; exact HBB.out] at cj
                replace cq : w2x.cell? ⟨pb, k, none⟩ = some (.int .i64 q) := by rw [← HQ.out]; exact cq
                go_wp2
                go_still_tail 16, (by kernel_rfl)
                change wpList _ _ _ _ _ w2x.drew
                go_wp2
                go_roundw
                case rel => exact ⟨k + 1, by omega, by go_num, ((O2.out.drewN 1).set (j * 7 + 4 + k) (B - D)).congr (fun e _ => HST.out e), (T2.out.drewN 1).set _ _, Three.set (W := w2x.drew) Q2.out _ _⟩
                case measure => first | (simp [intOf]; done) | (simp [intOf]; omega)
              · have hk4 : k = 3 := by omega
                subst hk4
                go_wp2
                go_roundw
                case rel => exact ⟨j + 1, by omega, by omega, by go_num, HW3.out.congr (fun e he => kick_next he), HT3.out⟩
                case measure => first | (simp [intOf]; done) | (simp [intOf]; omega)
        · go_wp2
          go_roundw
          case rel => exact ⟨i + 1, by omega, by go_num, by
            obtain rfl : j = n := by omega
            exact HW2.out.congr (fun e he => kick_row he), HT2.out⟩
          case measure => first | (simp [intOf]; done) | (simp [intOf]; omega)
    · have hin2 : i = n := by omega
      subst hin2
      go_wp2
      go_end0
      exact ⟨rfl, HW.out.congr (fun j hj => kick_end.symm), HT.out⟩

set_option maxHeartbeats 4000000 in
theorem kickR_any (g n cap gw : Nat) (S : Nat → Int) (h : Int) (w : World) (ho : Own w g n cap S) (hn : n ≤ 8) (hok : okAll n S) (hh : h = 1 ∨ h = -1) (hg : FinW gw) (g0 : 0 ≤ V gw) (g1 : V gw ≤ 2 ^ (40 + deepD)) :
    Calls Try.prog 29 #[.slice (some ⟨g, 0, none⟩) n cap, .float .f64 gw, .int .i64 h] w fun e w' => e = .returned (.tuple #[]) ∧ Own w' g n cap (kickS gw h n S) ∧ Touch g w w' := by
  have HO := Lib.hid ho
  have HK := Lib.hid hok
  have HH := Lib.hid hh
  have HG := Lib.hid (And.intro hg (And.intro g0 g1))
  clear ho hok hh hg g0 g1
  go_enter Try.func29, Try.ntmps29
  go_wp2
  go_loopw [6] (fun vi wr => ∃ i : Nat, i ≤ n ∧ vi = .int .i64 i ∧ Own wr g n cap (kickAt gw h n S i (i + 1) 0) ∧ Touch g w wr) (fun vi _ => n - (intOf vi).toNat)
  case atStart => exact ⟨0, Nat.zero_le _, rfl, HO.out.congr (fun j _ => kick_start), Touch.refl _ _⟩
  case round =>
    obtain ⟨i, hi, rfl, hw, ht⟩ := hrel
    have HW := Lib.hid hw
    have HT := Lib.hid ht
    clear hw ht
    by_cases hin : i < n
    · obtain ⟨wo, rfl⟩ : ∃ wo : World, wo = wr := ⟨_, rfl⟩
      go_wp2
      go_loopw [7] (fun vj wr => ∃ j : Nat, j ≤ n ∧ i < j ∧ vj = .int .i64 j ∧ Own wr g n cap (kickAt gw h n S i j 0) ∧ Touch g w wr) (fun vj _ => n - (intOf vj).toNat)
      case atStart => exact ⟨i + 1, by omega, by omega, by go_num, HW.out, HT.out⟩
      case round =>
        obtain ⟨j, hj, hij, rfl, hw, ht⟩ := hrel
        have HW2 := Lib.hid hw
        have HT2 := Lib.hid ht
        clear hw ht
        by_cases hjn : j < n
        · obtain ⟨wo, rfl⟩ : ∃ wo : World, wo = wr := ⟨_, rfl⟩
          have hl := HW2.out.lies
          have hp := ok_pull HK.out hin hjn
          have hfr : fr gw S i j 0 = pk gw (S (i * 7) * S (j * 7)) (S (j * 7 + 1) - S (i * 7 + 1)) (S (j * 7 + 2) - S (i * 7 + 2)) (S (j * 7 + 3) - S (i * 7 + 3)) (S (j * 7 + 1) - S (i * 7 + 1)) ∧
              fr gw S i j 1 = pk gw (S (i * 7) * S (j * 7)) (S (j * 7 + 1) - S (i * 7 + 1)) (S (j * 7 + 2) - S (i * 7 + 2)) (S (j * 7 + 3) - S (i * 7 + 3)) (S (j * 7 + 2) - S (i * 7 + 2)) ∧
              fr gw S i j 2 = pk gw (S (i * 7) * S (j * 7)) (S (j * 7 + 1) - S (i * 7 + 1)) (S (j * 7 + 2) - S (i * 7 + 2)) (S (j * 7 + 3) - S (i * 7 + 3)) (S (j * 7 + 3) - S (i * 7 + 3)) := ⟨rfl, rfl, rfl⟩
          have a0 := hl (i * 7 + 0) (by omega)
          rw [kickAt_low _ _ _ _ _ _ _ _ _ (by omega)] at a0
          rw [Nat.zero_add] at a0
          rw [Nat.add_zero] at a0
          obtain ⟨am, ham⟩ : ∃ z, S (i * 7) = z := ⟨_, rfl⟩
          rw [ham] at a0 hfr hp
          have a1 := hl (i * 7 + 1) (by omega)
          rw [kickAt_low _ _ _ _ _ _ _ _ _ (by omega)] at a1
          rw [Nat.zero_add] at a1
          obtain ⟨ax0, hax0⟩ : ∃ z, S (i * 7 + 1) = z := ⟨_, rfl⟩
          rw [hax0] at a1 hfr hp
          have a2 := hl (i * 7 + 2) (by omega)
          rw [kickAt_low _ _ _ _ _ _ _ _ _ (by omega)] at a2
          rw [Nat.zero_add] at a2
          obtain ⟨ax1, hax1⟩ : ∃ z, S (i * 7 + 2) = z := ⟨_, rfl⟩
          rw [hax1] at a2 hfr hp
          have a3 := hl (i * 7 + 3) (by omega)
          rw [kickAt_low _ _ _ _ _ _ _ _ _ (by omega)] at a3
          rw [Nat.zero_add] at a3
          obtain ⟨ax2, hax2⟩ : ∃ z, S (i * 7 + 3) = z := ⟨_, rfl⟩
          rw [hax2] at a3 hfr hp
          have a4 := hl (i * 7 + 4) (by omega)
          rw [Nat.zero_add] at a4
          obtain ⟨ap0, hap0⟩ : ∃ z, kickAt gw h n S i j 0 (i * 7 + 4) = z := ⟨_, rfl⟩
          rw [hap0] at a4
          have a5 := hl (i * 7 + 5) (by omega)
          rw [Nat.zero_add] at a5
          obtain ⟨ap1, hap1⟩ : ∃ z, kickAt gw h n S i j 0 (i * 7 + 5) = z := ⟨_, rfl⟩
          rw [hap1] at a5
          have a6 := hl (i * 7 + 6) (by omega)
          rw [Nat.zero_add] at a6
          obtain ⟨ap2, hap2⟩ : ∃ z, kickAt gw h n S i j 0 (i * 7 + 6) = z := ⟨_, rfl⟩
          rw [hap2] at a6
          have b0 := hl (j * 7 + 0) (by omega)
          rw [kickAt_low _ _ _ _ _ _ _ _ _ (by omega)] at b0
          rw [Nat.zero_add] at b0
          rw [Nat.add_zero] at b0
          obtain ⟨bm, hbm⟩ : ∃ z, S (j * 7) = z := ⟨_, rfl⟩
          rw [hbm] at b0 hfr hp
          have b1 := hl (j * 7 + 1) (by omega)
          rw [kickAt_low _ _ _ _ _ _ _ _ _ (by omega)] at b1
          rw [Nat.zero_add] at b1
          obtain ⟨bx0, hbx0⟩ : ∃ z, S (j * 7 + 1) = z := ⟨_, rfl⟩
          rw [hbx0] at b1 hfr hp
          have b2 := hl (j * 7 + 2) (by omega)
          rw [kickAt_low _ _ _ _ _ _ _ _ _ (by omega)] at b2
          rw [Nat.zero_add] at b2
          obtain ⟨bx1, hbx1⟩ : ∃ z, S (j * 7 + 2) = z := ⟨_, rfl⟩
          rw [hbx1] at b2 hfr hp
          have b3 := hl (j * 7 + 3) (by omega)
          rw [kickAt_low _ _ _ _ _ _ _ _ _ (by omega)] at b3
          rw [Nat.zero_add] at b3
          obtain ⟨bx2, hbx2⟩ : ∃ z, S (j * 7 + 3) = z := ⟨_, rfl⟩
          rw [hbx2] at b3 hfr hp
          have b4 := hl (j * 7 + 4) (by omega)
          rw [Nat.zero_add] at b4
          obtain ⟨bp0, hbp0⟩ : ∃ z, kickAt gw h n S i j 0 (j * 7 + 4) = z := ⟨_, rfl⟩
          rw [hbp0] at b4
          have b5 := hl (j * 7 + 5) (by omega)
          rw [Nat.zero_add] at b5
          obtain ⟨bp1, hbp1⟩ : ∃ z, kickAt gw h n S i j 0 (j * 7 + 5) = z := ⟨_, rfl⟩
          rw [hbp1] at b5
          have b6 := hl (j * 7 + 6) (by omega)
          rw [Nat.zero_add] at b6
          obtain ⟨bp2, hbp2⟩ : ∃ z, kickAt gw h n S i j 0 (j * 7 + 6) = z := ⟨_, rfl⟩
          rw [hbp2] at b6
          obtain ⟨hm1, hm2, hd0, hd1, hd2⟩ := hp
          have hpull := fun u => pullR_any am ax0 ax1 ax2 ap0 ap1 ap2 bm bx0 bx1 bx2 bp0 bp1 bp2 gw u HG.out.1 HG.out.2.1 HG.out.2.2 hm1 hm2 hd0 hd1 hd2
          rw [← hfr.1, ← hfr.2.1, ← hfr.2.2] at hpull
          clear hfr hm1 hm2 hd0 hd1 hd2 ham hax0 hax1 hax2 hap0 hap1 hap2 hbm hbx0 hbx1 hbx2 hbp0 hbp1 hbp2
          have hgl := HW2.out.lt
          have hgne : g ≠ wo.heap.size := by omega
          obtain ⟨P0, hP0⟩ : ∃ z, fr gw S i j 0 = z := ⟨_, rfl⟩
          obtain ⟨P1, hP1⟩ : ∃ z, fr gw S i j 1 = z := ⟨_, rfl⟩
          obtain ⟨P2, hP2⟩ : ∃ z, fr gw S i j 2 = z := ⟨_, rfl⟩
          rw [hP0, hP1, hP2] at hpull
          have HP0 := Lib.hid hP0
          have HP1 := Lib.hid hP1
          have HP2 := Lib.hid hP2
          have HPU := Lib.hid hpull
          clear hl hP0 hP1 hP2 hpull
          go_wp2
          go_region_held3 (fun w' => w'.cell? ⟨g, i * 7, none⟩ = some (.int .i64 am) ∧ w'.cell? ⟨g, i * 7 + 1, none⟩ = some (.int .i64 ax0) ∧ w'.cell? ⟨g, i * 7 + 2, none⟩ = some (.int .i64 ax1) ∧ w'.cell? ⟨g, i * 7 + 3, none⟩ = some (.int .i64 ax2) ∧ w'.cell? ⟨g, i * 7 + 4, none⟩ = some (.int .i64 ap0) ∧ w'.cell? ⟨g, i * 7 + 5, none⟩ = some (.int .i64 ap1) ∧ w'.cell? ⟨g, i * 7 + 6, none⟩ = some (.int .i64 ap2) ∧ w'.cell? ⟨g, j * 7, none⟩ = some (.int .i64 bm) ∧ w'.cell? ⟨g, j * 7 + 1, none⟩ = some (.int .i64 bx0) ∧ w'.cell? ⟨g, j * 7 + 2, none⟩ = some (.int .i64 bx1) ∧ w'.cell? ⟨g, j * 7 + 3, none⟩ = some (.int .i64 bx2) ∧ w'.cell? ⟨g, j * 7 + 4, none⟩ = some (.int .i64 bp0) ∧ w'.cell? ⟨g, j * 7 + 5, none⟩ = some (.int .i64 bp1) ∧ w'.cell? ⟨g, j * 7 + 6, none⟩ = some (.int .i64 bp2))
            (first | go_keep | exact ⟨by (repeat rw [cell_set_ne _ _ _ _ _ _ hgne]); assumption, by (repeat rw [cell_set_ne _ _ _ _ _ _ hgne]); assumption, by (repeat rw [cell_set_ne _ _ _ _ _ _ hgne]); assumption, by (repeat rw [cell_set_ne _ _ _ _ _ _ hgne]); assumption, by (repeat rw [cell_set_ne _ _ _ _ _ _ hgne]); assumption, by (repeat rw [cell_set_ne _ _ _ _ _ _ hgne]); assumption, by (repeat rw [cell_set_ne _ _ _ _ _ _ hgne]); assumption, by (repeat rw [cell_set_ne _ _ _ _ _ _ hgne]); assumption, by (repeat rw [cell_set_ne _ _ _ _ _ _ hgne]); assumption, by (repeat rw [cell_set_ne _ _ _ _ _ _ hgne]); assumption, by (repeat rw [cell_set_ne _ _ _ _ _ _ hgne]); assumption, by (repeat rw [cell_set_ne _ _ _ _ _ _ hgne]); assumption, by (repeat rw [cell_set_ne _ _ _ _ _ _ hgne]); assumption, by (repeat rw [cell_set_ne _ _ _ _ _ _ hgne]); assumption⟩)
            ((go_at_call 34
              refine (HPU.out _).mono ?_
              rintro e w1 ⟨rfl, hb⟩
              obtain ⟨hc, hf⟩ := bcell hb
              have ka0 : w1.cell? ⟨g, i * 7, none⟩ = some (.int .i64 am) := by rw [hc _ _ (by first | (simp; done) | (simp; omega) | omega)]; first | (simpa using a0) | (simpa [cell_alloc_lt, hgl] using a0)
              have ka1 : w1.cell? ⟨g, i * 7 + 1, none⟩ = some (.int .i64 ax0) := by rw [hc _ _ (by first | (simp; done) | (simp; omega) | omega)]; first | (simpa using a1) | (simpa [cell_alloc_lt, hgl] using a1)
              have ka2 : w1.cell? ⟨g, i * 7 + 2, none⟩ = some (.int .i64 ax1) := by rw [hc _ _ (by first | (simp; done) | (simp; omega) | omega)]; first | (simpa using a2) | (simpa [cell_alloc_lt, hgl] using a2)
              have ka3 : w1.cell? ⟨g, i * 7 + 3, none⟩ = some (.int .i64 ax2) := by rw [hc _ _ (by first | (simp; done) | (simp; omega) | omega)]; first | (simpa using a3) | (simpa [cell_alloc_lt, hgl] using a3)
              have ka4 : w1.cell? ⟨g, i * 7 + 4, none⟩ = some (.int .i64 ap0) := by rw [hc _ _ (by first | (simp; done) | (simp; omega) | omega)]; first | (simpa using a4) | (simpa [cell_alloc_lt, hgl] using a4)
              have ka5 : w1.cell? ⟨g, i * 7 + 5, none⟩ = some (.int .i64 ap1) := by rw [hc _ _ (by first | (simp; done) | (simp; omega) | omega)]; first | (simpa using a5) | (simpa [cell_alloc_lt, hgl] using a5)
              have ka6 : w1.cell? ⟨g, i * 7 + 6, none⟩ = some (.int .i64 ap2) := by rw [hc _ _ (by first | (simp; done) | (simp; omega) | omega)]; first | (simpa using a6) | (simpa [cell_alloc_lt, hgl] using a6)
              have kb0 : w1.cell? ⟨g, j * 7, none⟩ = some (.int .i64 bm) := by rw [hc _ _ (by first | (simp; done) | (simp; omega) | omega)]; first | (simpa using b0) | (simpa [cell_alloc_lt, hgl] using b0)
              have kb1 : w1.cell? ⟨g, j * 7 + 1, none⟩ = some (.int .i64 bx0) := by rw [hc _ _ (by first | (simp; done) | (simp; omega) | omega)]; first | (simpa using b1) | (simpa [cell_alloc_lt, hgl] using b1)
              have kb2 : w1.cell? ⟨g, j * 7 + 2, none⟩ = some (.int .i64 bx1) := by rw [hc _ _ (by first | (simp; done) | (simp; omega) | omega)]; first | (simpa using b2) | (simpa [cell_alloc_lt, hgl] using b2)
              have kb3 : w1.cell? ⟨g, j * 7 + 3, none⟩ = some (.int .i64 bx2) := by rw [hc _ _ (by first | (simp; done) | (simp; omega) | omega)]; first | (simpa using b3) | (simpa [cell_alloc_lt, hgl] using b3)
              have kb4 : w1.cell? ⟨g, j * 7 + 4, none⟩ = some (.int .i64 bp0) := by rw [hc _ _ (by first | (simp; done) | (simp; omega) | omega)]; first | (simpa using b4) | (simpa [cell_alloc_lt, hgl] using b4)
              have kb5 : w1.cell? ⟨g, j * 7 + 5, none⟩ = some (.int .i64 bp1) := by rw [hc _ _ (by first | (simp; done) | (simp; omega) | omega)]; first | (simpa using b5) | (simpa [cell_alloc_lt, hgl] using b5)
              have kb6 : w1.cell? ⟨g, j * 7 + 6, none⟩ = some (.int .i64 bp2) := by rw [hc _ _ (by first | (simp; done) | (simp; omega) | omega)]; first | (simpa using b6) | (simpa [cell_alloc_lt, hgl] using b6)
              have hg1 : g < w1.heap.size := Nat.lt_of_lt_of_le (by first | exact hgl | (simp; omega)) hb.size))
          all_goals have HB := Lib.hid hb
          all_goals clear hb hc hf ka0 ka1 ka2 ka3 ka4 ka5 ka6 kb0 kb1 kb2 kb3 kb4 kb5 kb6 a0 a1 a2 a3 a4 a5 a6 b0 b1 b2 b3 b4 b5 b6
          all_goals go_wp2_with fail
          · have HA := after_call (F := fun c => fr gw S i j c) (show Own wo.drew g n cap (kickAt gw h n S i j 0) from HW2.out) (HT2.out.drewN 1) HB.out HP0.out.symm HP1.out.symm HP2.out.symm
            revert HA
            generalize World.alloc w1 _ = W1
            generalize w1.heap.size = pb
            intro HA
            replace HA := Lib.hid HA
            clear HB hg1
            clear HP0 HP1 HP2 HPU HW2 HT2 HW HT hgl hgne
            go_loopw [9] (fun vk wr => ∃ k : Nat, k ≤ 3 ∧ vk = .int .i64 k ∧ Own wr g n cap (kickAt gw h n S i j k) ∧ Touch g w wr ∧ Three wr g pb (fun c => fr gw S i j c)) (fun vk _ => 3 - (intOf vk).toNat)
            case atStart => exact ⟨0, Nat.zero_le _, rfl, HA.out.1, HA.out.2.1, HA.out.2.2⟩
            case round =>
              obtain ⟨k, hk, rfl, hw, ht, h3⟩ := hrel
              have HW3 := Lib.hid hw
              have HT3 := Lib.hid ht
              have H3 := Lib.hid h3
              clear hw ht h3
              by_cases hk3 : k < 3
              · have hl := HW3.out.lies
                have ci := hl (i * 7 + 4 + k) (by omega)
                have cj := hl (j * 7 + 4 + k) (by omega)
                have cq := H3.out.2.2 k hk3
                have fi := HW3.out.free (i * 7 + 4 + k)
                rw [Nat.zero_add] at ci cj
                obtain ⟨w1, w2, w3⟩ := kick_ok (gw := gw) (k := k) hn HH.out HK.out hij hjn hk3 IntKind.i64.wrap (fun z hz => IntWalk.i64_in z hz)
                obtain ⟨w4, w5, w6⟩ := kick_ok (gw := gw) (k := k) hn HH.out HK.out hij hjn hk3 wrap64 (fun z hz => IntWalk.wrap64_in z hz)
                have HST : Hid (∀ e, kickAt gw h n S i j (k + 1) e = upd (upd (kickAt gw h n S i j k) (i * 7 + 4 + k) (kickAt gw h n S i j k (i * 7 + 4 + k) + h * fr gw S i j k)) (j * 7 + 4 + k) (kickAt gw h n S i j k (j * 7 + 4 + k) - h * fr gw S i j k) e) :=
                  Lib.hid (fun e => (kick_step hij hjn hk3 e).symm)
                obtain ⟨A, hA⟩ : ∃ z, kickAt gw h n S i j k (i * 7 + 4 + k) = z := ⟨_, rfl⟩
                obtain ⟨B, hB⟩ : ∃ z, kickAt gw h n S i j k (j * 7 + 4 + k) = z := ⟨_, rfl⟩
                obtain ⟨q, hq⟩ : ∃ z, fr gw S i j k = z := ⟨_, rfl⟩
                rw [hA] at ci w2 w5
                rw [hB] at cj w3 w6
                rw [hq] at w1 w2 w3 w4 w5 w6
                replace cq : wr.cell? ⟨pb, k, none⟩ = some (.int .i64 q) := by rw [← hq]; exact cq
                rw [hA, hB, hq] at HST
                obtain ⟨D, hD⟩ : ∃ z, h * q = z := ⟨_, rfl⟩
                rw [hD] at w1 w2 w3 w4 w5 w6 HST
                have HQ := Lib.hid hq
                have HBB := Lib.hid hB
                have hbm := HST
                clear hl hA hB hq hbm
                have O2 := Lib.hid ((HW3.out.drewN 1).set (i * 7 + 4 + k) (A + D))
                have T2 := Lib.hid ((HT3.out.drewN 1).set (i * 7 + 4 + k) (.int .i64 (A + D)))
                have Q2 := Lib.hid (Three.set (W := wr.drew) H3.out (i * 7 + 4 + k) (.int .i64 (A + D)))
                have hpg : pb ≠ g := H3.out.1
                go_wp2
                go_still_tail 16, (by kernel_rfl)
                change wpList _ _ _ _ _ wr.drew
                go_wp2
                clear ci cj cq fi
                revert O2 T2 Q2
                show Hid (Own (wr.setCell ⟨g, i * 7 + 4 + k, none⟩ (.int .i64 (A + D))).drew _ _ _ _) → Hid (Touch g w (wr.setCell ⟨g, i * 7 + 4 + k, none⟩ (.int .i64 (A + D))).drew) → Hid (Three (wr.setCell ⟨g, i * 7 + 4 + k, none⟩ (.int .i64 (A + D))).drew _ _ _) → _
                generalize (wr.setCell ⟨g, i * 7 + 4 + k, none⟩ (.int .i64 (A + D))).drew = w2x
                intro O2 T2 Q2
                have cj := O2.out.lies (j * 7 + 4 + k) (by omega)
                have cq := Q2.out.2.2 k hk3
                have fj := O2.out.free (j * 7 + 4 + k)
                rw [Nat.zero_add, show upd (kickAt gw h n S i j k) (i * 7 + 4 + k) (A + D) (j * 7 + 4 + k) = B from by unfold upd; rw [if_neg (by omega)]; exact HBB.out] at cj
                replace cq : w2x.cell? ⟨pb, k, none⟩ = some (.int .i64 q) := by rw [← HQ.out]; exact cq
                go_wp2
                go_still_tail 16, (by kernel_rfl)
                change wpList _ _ _ _ _ w2x.drew
                go_wp2
                go_roundw
                case rel => exact ⟨k + 1, by omega, by go_num, ((O2.out.drewN 1).set (j * 7 + 4 + k) (B - D)).congr (fun e _ => HST.out e), (T2.out.drewN 1).set _ _, Three.set (W := w2x.drew) Q2.out _ _⟩
                case measure => first | (simp [intOf]; done) | (simp [intOf]; omega)
              · have hk4 : k = 3 := by omega
                subst hk4
                go_wp2
                go_roundw
                case rel => exact ⟨j + 1, by omega, by omega, by go_num, HW3.out.congr (fun e he => kick_next he), HT3.out⟩
                case measure => first | (simp [intOf]; done) | (simp [intOf]; omega)
          · have HA := after_alloc (F := fun c => fr gw S i j c) (show Own wo g n cap (kickAt gw h n S i j 0) from HW2.out) HT2.out rfl (below_undrew HB.out) HP0.out.symm HP1.out.symm HP2.out.symm
            revert HA
            generalize World.setCell (World.setCell (World.setCell w1 _ _) _ _) _ _ = W1
            generalize wo.heap.size = pb
            intro HA
            replace HA := Lib.hid HA
            clear HB hg1
            clear HP0 HP1 HP2 HPU HW2 HT2 HW HT hgl hgne
            go_loopw [9] (fun vk wr => ∃ k : Nat, k ≤ 3 ∧ vk = .int .i64 k ∧ Own wr g n cap (kickAt gw h n S i j k) ∧ Touch g w wr ∧ Three wr g pb (fun c => fr gw S i j c)) (fun vk _ => 3 - (intOf vk).toNat)
            case atStart => exact ⟨0, Nat.zero_le _, rfl, HA.out.1, HA.out.2.1, HA.out.2.2⟩
            case round =>
              obtain ⟨k, hk, rfl, hw, ht, h3⟩ := hrel
              have HW3 := Lib.hid hw
              have HT3 := Lib.hid ht
              have H3 := Lib.hid h3
              clear hw ht h3
              by_cases hk3 : k < 3
              · have hl := HW3.out.lies
                have ci := hl (i * 7 + 4 + k) (by omega)
                have cj := hl (j * 7 + 4 + k) (by omega)
                have cq := H3.out.2.2 k hk3
                have fi := HW3.out.free (i * 7 + 4 + k)
                rw [Nat.zero_add] at ci cj
                obtain ⟨w1, w2, w3⟩ := kick_ok (gw := gw) (k := k) hn HH.out HK.out hij hjn hk3 IntKind.i64.wrap (fun z hz => IntWalk.i64_in z hz)
                obtain ⟨w4, w5, w6⟩ := kick_ok (gw := gw) (k := k) hn HH.out HK.out hij hjn hk3 wrap64 (fun z hz => IntWalk.wrap64_in z hz)
                have HST : Hid (∀ e, kickAt gw h n S i j (k + 1) e = upd (upd (kickAt gw h n S i j k) (i * 7 + 4 + k) (kickAt gw h n S i j k (i * 7 + 4 + k) + h * fr gw S i j k)) (j * 7 + 4 + k) (kickAt gw h n S i j k (j * 7 + 4 + k) - h * fr gw S i j k) e) :=
                  Lib.hid (fun e => (kick_step hij hjn hk3 e).symm)
                obtain ⟨A, hA⟩ : ∃ z, kickAt gw h n S i j k (i * 7 + 4 + k) = z := ⟨_, rfl⟩
                obtain ⟨B, hB⟩ : ∃ z, kickAt gw h n S i j k (j * 7 + 4 + k) = z := ⟨_, rfl⟩
                obtain ⟨q, hq⟩ : ∃ z, fr gw S i j k = z := ⟨_, rfl⟩
                rw [hA] at ci w2 w5
                rw [hB] at cj w3 w6
                rw [hq] at w1 w2 w3 w4 w5 w6
                replace cq : wr.cell? ⟨pb, k, none⟩ = some (.int .i64 q) := by rw [← hq]; exact cq
                rw [hA, hB, hq] at HST
                obtain ⟨D, hD⟩ : ∃ z, h * q = z := ⟨_, rfl⟩
                rw [hD] at w1 w2 w3 w4 w5 w6 HST
                have HQ := Lib.hid hq
                have HBB := Lib.hid hB
                have hbm := HST
                clear hl hA hB hq hbm
                have O2 := Lib.hid ((HW3.out.drewN 1).set (i * 7 + 4 + k) (A + D))
                have T2 := Lib.hid ((HT3.out.drewN 1).set (i * 7 + 4 + k) (.int .i64 (A + D)))
                have Q2 := Lib.hid (Three.set (W := wr.drew) H3.out (i * 7 + 4 + k) (.int .i64 (A + D)))
                have hpg : pb ≠ g := H3.out.1
                go_wp2
                go_still_tail 16, (by kernel_rfl)
                change wpList _ _ _ _ _ wr.drew
                go_wp2
                clear ci cj cq fi
                revert O2 T2 Q2
                show Hid (Own (wr.setCell ⟨g, i * 7 + 4 + k, none⟩ (.int .i64 (A + D))).drew _ _ _ _) → Hid (Touch g w (wr.setCell ⟨g, i * 7 + 4 + k, none⟩ (.int .i64 (A + D))).drew) → Hid (Three (wr.setCell ⟨g, i * 7 + 4 + k, none⟩ (.int .i64 (A + D))).drew _ _ _) → _
                generalize (wr.setCell ⟨g, i * 7 + 4 + k, none⟩ (.int .i64 (A + D))).drew = w2x
                intro O2 T2 Q2
                have cj := O2.out.lies (j * 7 + 4 + k) (by omega)
                have cq := Q2.out.2.2 k hk3
                have fj := O2.out.free (j * 7 + 4 + k)
                rw [Nat.zero_add, show upd (kickAt gw h n S i j k) (i * 7 + 4 + k) (A + D) (j * 7 + 4 + k) = B from by unfold upd; rw [if_neg (by omega)]; exact HBB.out] at cj
                replace cq : w2x.cell? ⟨pb, k, none⟩ = some (.int .i64 q) := by rw [← HQ.out]; exact cq
                go_wp2
                go_still_tail 16, (by kernel_rfl)
                change wpList _ _ _ _ _ w2x.drew
                go_wp2
                go_roundw
                case rel => exact ⟨k + 1, by omega, by go_num, ((O2.out.drewN 1).set (j * 7 + 4 + k) (B - D)).congr (fun e _ => HST.out e), (T2.out.drewN 1).set _ _, Three.set (W := w2x.drew) Q2.out _ _⟩
                case measure => first | (simp [intOf]; done) | (simp [intOf]; omega)
              · have hk4 : k = 3 := by omega
                subst hk4
                go_wp2
                go_roundw
                case rel => exact ⟨j + 1, by omega, by omega, by go_num, HW3.out.congr (fun e he => kick_next he), HT3.out⟩
                case measure => first | (simp [intOf]; done) | (simp [intOf]; omega)
        · go_wp2
          go_roundw
          case rel => exact ⟨i + 1, by omega, by go_num, by
            obtain rfl : j = n := by omega
            exact HW2.out.congr (fun e he => kick_row he), HT2.out⟩
          case measure => first | (simp [intOf]; done) | (simp [intOf]; omega)
    · have hin2 : i = n := by omega
      subst hin2
      go_wp2
      go_end0
      exact ⟨rfl, HW.out.congr (fun j hj => kick_end.symm), HT.out⟩
end Go.Proofs.Ytjapohjfheielaa
