/- Walks: the reference's Dot and Sign. Conditions: lists that came in. -/
import Derived.Test.YtlegkefonpiakaaK22
namespace Go.Proofs.Ytlegkefonpiakaa
open Go.RowKit
open Ieee (FinW V dR big double wordOf)

def accE (a b : List Nat) : Int := if dotErr fitB a b = 0 then accP a b a.length else 0
theorem refDot_any (v u : Value) (a b : List Nat) (w : World) (ha : Came w w.heap.size v a) (hb : Came w w.heap.size u b) (wa : Words a) (wb : Words b) (ma : a.length ≤ 17592186043904) (mb : b.length ≤ 17592186043904) :
    Calls Try.prog 31 #[v, u] w fun e w' => ∃ cur, e = .returned (.tuple #[.agg cur, .int .i64 (dotErr fitB a b)]) ∧ AggR cur (accE a b) ∧ Below w.heap.size w w' := by
  obtain ⟨A, ca, rfl⟩ := ha.form
  obtain ⟨B, cb, rfl⟩ := hb.form
  by_cases h : dotErr fitB a b = 0
  · unfold accE
    rw [if_pos h, h]
    exact refDot_ok A B ca cb a b w ha hb wa wb h
  · unfold accE
    rw [if_neg h]
    exact (refDot_err A B ca cb a b w ha hb ma mb h).mono fun e w' ⟨h1, h2⟩ => ⟨z24, h1, agg_zero, h2⟩

set_option maxRecDepth 20000 in
theorem refDotF_any (v u : Value) (a b : List Nat) (w : World) (ha : Came w w.heap.size v a) (hb : Came w w.heap.size u b) (wa : Words a) (wb : Words b) (ma : a.length ≤ 17592186043904) (mb : b.length ≤ 17592186043904) :
    Calls Try.prog 15 #[v, u] w fun e w' => e = .returned (.tuple #[.float .f64 (dotR fitB a b), .int .i64 (dotErr fitB a b)]) ∧ Below w.heap.size w w' := by
  have hd := refDot_any v u a b w ha hb wa wb ma mb
  by_cases h : dotErr fitB a b = 0
  · obtain ⟨h1, h2, h3, _⟩ := accP_law wa wb h
    unfold accE at hd
    rw [if_pos h, h] at hd
    rw [h, ← h3]
    obtain ⟨z, hz⟩ : ∃ z, accP a b a.length = z := ⟨_, rfl⟩
    rw [hz] at hd h1 h2 ⊢
    have HR := Lib.hid (fun (g : Nat) (wr : World) (hacc : AccR wr g (limb z)) => round_any g z wr hacc h1 h2)
    obtain ⟨D, hD⟩ : ∃ D, wordOf (dR (z * 2 ^ 50)) = D := ⟨_, rfl⟩
    rw [hD] at HR ⊢
    have HD := Lib.hid hd
    clear hd h1 h2 h3 hz hD h ha hb wa wb ma mb
    go_enter Try.func15, Try.ntmps15
    go_wp2_with fail
    refine HD.out.mono ?_
    rintro e w1 ⟨cur, rfl, hag, hb1⟩
    have HAG := Lib.hid hag
    have HB := Lib.hid hb1
    have HN := Lib.hid (hag.new w1)
    have HB2 : Hid (Below w.heap.size w (w1.alloc (.cells cur 53))) := Lib.hid (hb1.alloc hb1.size _)
    clear hag hb1
    go_wp2_with (first
      | (go_at_call 32; refine (HR.out _ _ HN.out).mono ?_; rintro e w2 ⟨rfl, hb3⟩)
      | (refine wpList_store_row rfl 53 _ _ rfl w1.heap.size cur rfl rfl 53 _ (heap_alloc_new w1 _) HAG.out.info HAG.out.fits HAG.out.2.2 ?_; rw [World.setRow_alloc_new]))
    go_ret2
    exact ⟨rfl, HB2.out.trans (hb3.mono HB2.out.size)⟩
  · have hr : dotR fitB a b = 0 := by unfold dotR; rw [if_neg h]
    rw [hr]
    obtain ⟨E, hE⟩ : ∃ E, dotErr fitB a b = E := ⟨_, rfl⟩
    have he' : (dotErr fitB a b != 0) = true := by rw [bne_iff_ne]; exact h
    rw [hE] at hd he' ⊢
    have HD := Lib.hid hd
    clear hd h hr hE ha hb wa wb ma mb
    go_enter Try.func15, Try.ntmps15
    go_wp2_with fail
    refine HD.out.mono ?_
    rintro e w1 ⟨cur, rfl, hag, hb1⟩
    have HAG := Lib.hid hag
    have HB2 : Hid (Below w.heap.size w (w1.alloc (.cells cur 53))) := Lib.hid (hb1.alloc hb1.size _)
    clear hag hb1
    go_wp2_with (refine wpList_store_row rfl 53 _ _ rfl w1.heap.size cur rfl rfl 53 _ (heap_alloc_new w1 _) HAG.out.info HAG.out.fits HAG.out.2.2 ?_; rw [World.setRow_alloc_new])
    go_ret2
    exact ⟨rfl, HB2.out⟩

set_option maxRecDepth 20000 in
theorem refSign_any (v u : Value) (a b : List Nat) (w : World) (ha : Came w w.heap.size v a) (hb : Came w w.heap.size u b) (wa : Words a) (wb : Words b) (ma : a.length ≤ 17592186043904) (mb : b.length ≤ 17592186043904) :
    Calls Try.prog 17 #[v, u] w fun e w' => e = .returned (.tuple #[.int .i64 (signR fitB a b), .int .i64 (dotErr fitB a b)]) ∧ Below w.heap.size w w' := by
  have hd := refDot_any v u a b w ha hb wa wb ma mb
  by_cases h : dotErr fitB a b = 0
  · obtain ⟨h1, _, _, h3⟩ := accP_law wa wb h
    unfold accE at hd
    rw [if_pos h, h] at hd
    rw [h, ← h3]
    obtain ⟨z, hz⟩ : ∃ z, accP a b a.length = z := ⟨_, rfl⟩
    rw [hz] at hd h1 ⊢
    have HR := Lib.hid (fun (g : Nat) (wr : World) (hacc : AccR wr g (limb z)) => sgn_any g z wr hacc (rng_of h1))
    obtain ⟨D, hD⟩ : ∃ D, z.sign = D := ⟨_, rfl⟩
    rw [hD] at HR ⊢
    have HD := Lib.hid hd
    clear hd h1 h3 hz hD h ha hb wa wb ma mb
    go_enter Try.func17, Try.ntmps17
    go_wp2_with fail
    refine HD.out.mono ?_
    rintro e w1 ⟨cur, rfl, hag, hb1⟩
    have HAG := Lib.hid hag
    have HN := Lib.hid (hag.new w1)
    have HB2 : Hid (Below w.heap.size w (w1.alloc (.cells cur 53))) := Lib.hid (hb1.alloc hb1.size _)
    clear hag hb1
    go_wp2_with (first
      | (go_at_call 33; refine (HR.out _ _ HN.out).mono ?_; rintro e w2 ⟨rfl, rfl⟩)
      | (refine wpList_store_row rfl 53 _ _ rfl w1.heap.size cur rfl rfl 53 _ (heap_alloc_new w1 _) HAG.out.info HAG.out.fits HAG.out.2.2 ?_; rw [World.setRow_alloc_new]))
    go_ret2
    exact ⟨rfl, HB2.out⟩
  · have hr : signR fitB a b = 0 := by unfold signR; rw [if_neg h]
    rw [hr]
    obtain ⟨E, hE⟩ : ∃ E, dotErr fitB a b = E := ⟨_, rfl⟩
    have he' : (dotErr fitB a b != 0) = true := by rw [bne_iff_ne]; exact h
    rw [hE] at hd he' ⊢
    have HD := Lib.hid hd
    clear hd h hr hE ha hb wa wb ma mb
    go_enter Try.func17, Try.ntmps17
    go_wp2_with fail
    refine HD.out.mono ?_
    rintro e w1 ⟨cur, rfl, hag, hb1⟩
    have HAG := Lib.hid hag
    have HB2 : Hid (Below w.heap.size w (w1.alloc (.cells cur 53))) := Lib.hid (hb1.alloc hb1.size _)
    clear hag hb1
    go_wp2_with (refine wpList_store_row rfl 53 _ _ rfl w1.heap.size cur rfl rfl 53 _ (heap_alloc_new w1 _) HAG.out.info HAG.out.fits HAG.out.2.2 ?_; rw [World.setRow_alloc_new])
    go_ret2
    exact ⟨rfl, HB2.out⟩
end Go.Proofs.Ytlegkefonpiakaa
