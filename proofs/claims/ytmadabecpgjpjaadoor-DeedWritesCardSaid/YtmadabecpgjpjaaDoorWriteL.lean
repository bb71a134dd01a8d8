/- The law DeedWrites: its walk. -/
import Derived.Test.YtmadabecpgjpjaaDoorAwakeA
namespace Go.Proofs.YtmadabecpgjpjaaDoor
open Go.RowKit

set_option maxRecDepth 100000 in
set_option maxHeartbeats 800000 in
theorem writes_over (f : Nat → Int) (p : Option Addr) (n c : Nat) (w : World) (hE : Env w) (hn : 64 < n) :
    Calls Tryd.prog 6 #[.agg (scells f (.slice p n c))] w fun e w' => e = .returned (.bool true) ∧ Below w.heap.size w w' := by
  have hz8 := hE.size
  have hn' : (64 : Int) < (n : Int) := by omega
  have hd : decide ((64 : Int) < (n : Int)) = true := by simpa using hn'
  have Hn := Lib.hid hn
  clear hn
  unfold scells
  go_enter Tryd.func6, Tryd.ntmps6
  go_upto_region 1 with fail
  generalize hw2 : w.alloc _ = w2
  have hb : Below w.heap.size w w2 := by rw [← hw2]; exact (Below.refl _ w).alloc (Nat.le_refl _) _
  have hg : w2.heap[w.heap.size]? = some (.cells (scells f (.slice p n c)) 41 (0, 0)) := by rw [← hw2]; exact first_new w _
  have hE2 := hE.below hb hz8
  obtain ⟨c0, c1, c2, c3, c4, c5, c6⟩ := cells7 hg
  have l1 := (Array.getElem?_eq_some_iff.1 hg).1
  have hz := hb.size
  clear hw2
  go_wp2_with (first
    | (go_at_call 15; refine (write_full f _ n c _ Hn.out).mono ?_; rintro e1 w1 ⟨rfl, hb1⟩; have hE3 := hE2.below hb1 hE2.size; have d6 := (hb1.cell (p := ⟨w.heap.size, 6, none⟩) l1).trans c6)
    | (go_at_call 16; refine (awake_any _ hE3).mono ?_; rintro e2 w3 ⟨rfl, hb3⟩))
  go_ret
  exact ⟨rfl, (hb.trans (hb1.mono hz)).trans (hb3.mono (Nat.le_trans hz hb1.size))⟩

set_option maxRecDepth 100000 in
set_option maxHeartbeats 800000 in
theorem writes_fits (f : Nat → Int) (hf : ∀ k, k < 6 → I64 (f k)) (p : Option Addr) (es : List Int) (c : Nat) (w : World) (hE : Env w) (hes : IntsAt w p es) (h64 : ∀ x ∈ es, I64 x) (hn : es.length ≤ 64) :
    Calls Tryd.prog 6 #[.agg (scells f (.slice p es.length c))] w fun e w' => e = .returned (.bool true) ∧ Below w.heap.size w w' := by
  have hz8 := hE.size
  have hn' : ¬ (64 : Int) < (es.length : Int) := by omega
  have hd : decide ((64 : Int) < (es.length : Int)) = false := by simpa using hn'
  have Hn := Lib.hid hn
  clear hn
  unfold scells
  go_enter Tryd.func6, Tryd.ntmps6
  go_upto_region 1 with fail
  generalize hw2 : w.alloc _ = w2
  have hb : Below w.heap.size w w2 := by rw [← hw2]; exact (Below.refl _ w).alloc (Nat.le_refl _) _
  have hg : w2.heap[w.heap.size]? = some (.cells (scells f (.slice p es.length c)) 41 (0, 0)) := by rw [← hw2]; exact first_new w _
  have hE2 := hE.below hb hz8
  have hi2 := hes.below hb (Nat.le_refl _)
  obtain ⟨c0, c1, c2, c3, c4, c5, c6⟩ := cells7 hg
  have l1 := (Array.getElem?_eq_some_iff.1 hg).1
  have hz := hb.size
  clear hw2 hes
  go_upto_region 5 with (first
    | (go_at_call 15; refine (write_line f hf _ es c _ hE2 hi2 h64 Hn.out).mono ?_; rintro e1 w1 ⟨rfl, hb1⟩; have hE3 := hE2.below hb1 hE2.size; have d6 := (hb1.cell (p := ⟨w.heap.size, 6, none⟩) l1).trans c6)
    | (go_at_call 17; refine (read_line f hf es _ hE3 h64 Hn.out).mono ?_; rintro e2 w3 ⟨q, d, rfl, hi3, hb3⟩))
  generalize hw4 : w3.alloc _ = w4
  have hb4 : Below w3.heap.size w3 w4 := by rw [← hw4]; exact (Below.refl _ _).alloc (Nat.le_refl _) _
  have hg1 := (hb1.block _ l1).trans hg
  have l2 := (Array.getElem?_eq_some_iff.1 hg1).1
  have hg3 := (hb3.block _ l2).trans hg1
  have l3 := (Array.getElem?_eq_some_iff.1 hg3).1
  have hg4 := (hb4.block _ l3).trans hg3
  have hr4 : w4.heap[w3.heap.size]? = some (.cells (scells f (.slice q es.length d)) 41 (0, 0)) := by rw [← hw4]; exact first_new w3 _
  have hE4 := (hE3.below hb3 hE3.size).below hb4 (hE3.below hb3 hE3.size).size
  have hi4 := (hi2.below hb1 (Nat.le_refl _)).below hb3 (Nat.le_refl _) |>.below hb4 (Nat.le_refl _)
  have hj4 := hi3.below hb4 (Nat.le_refl _)
  have hb5 : Below w.heap.size w w4 := ((hb.trans (hb1.mono hz)).trans (hb3.mono (Nat.le_trans hz hb1.size))).trans (hb4.mono (Nat.le_trans hz (Nat.le_trans hb1.size hb3.size)))
  have hM : es.length ≤ 1048576 := Nat.le_trans Hn.out (by decide)
  have HM := Lib.hid hM
  have m4 := (Array.getElem?_eq_some_iff.1 hr4).1
  have k4 := (Array.getElem?_eq_some_iff.1 hg4).1
  have HL := Lib.hid (rfl : lineB f es = lineB f es)
  have hq : ((lineB f es).toList == (lineB f es).toList) = true := beq_self_eq_true _
  clear hw4 hg hg1 hg3 l1 l2 l3 c0 c1 c2 c3 c4 c5 c6 d6 hi2 hi3 hb hb1 hb3 hb4 hz hE2 hE3 hM
  go_wp2_with (first
    | (go_at_call 16; refine (awake_any _ hE4).mono ?_; rintro e5 w5 ⟨rfl, hb6⟩; have hg6 := (hb6.block _ k4).trans hg4; have hr6 := (hb6.block _ m4).trans hr4; have hi6 := hi4.below hb6 (Nat.le_refl _); have hj6 := hj4.below hb6 (Nat.le_refl _); have hs6 := hb6.size; obtain ⟨c0, c1, c2, c3, c4, c5, c6⟩ := cells7 hg6; obtain ⟨d0, d1, d2, d3, d4, d5, d6⟩ := cells7 hr6)
    | (go_at_call 18; refine (line_line f hf _ es c _ hi6 h64 HM.out).mono ?_; rintro e6 w6 ⟨rfl, hb7⟩; have hg7 := (hb7.block _ (Array.getElem?_eq_some_iff.1 hg6).1).trans hg6; have hr7 := (hb7.block _ (Array.getElem?_eq_some_iff.1 hr6).1).trans hr6; have hi7 := hi6.below hb7 (Nat.le_refl _); have hj7 := hj6.below hb7 (Nat.le_refl _); have hs7 := hb7.size; obtain ⟨g0, g1, g2, g3, g4, g5, g6⟩ := cells7 hg7; obtain ⟨r0, r1, r2, r3, r4, r5, r6⟩ := cells7 hr7)
    | (go_at_call 19; refine (same_self f _ _ es _ _ _ hj7 hi7 HM.out).mono ?_; rintro e7 w7 ⟨rfl, hb8⟩))
  go_ret
  have z5 := hb5.size
  exact ⟨rfl, ((hb5.trans (hb6.mono z5)).trans (hb7.mono (Nat.le_trans z5 hs6))).trans (hb8.mono (Nat.le_trans z5 (Nat.le_trans hs6 hs7)))⟩

theorem writes_any (f : Nat → Int) (hf : ∀ k, k < 6 → I64 (f k)) (p : Option Addr) (es : List Int) (c : Nat) (w : World) (hE : Env w) (hes : IntsAt w p es) (h64 : ∀ x ∈ es, I64 x) :
    Calls Tryd.prog 6 #[.agg (scells f (.slice p es.length c))] w fun e w' => e = .returned (.bool true) ∧ Below w.heap.size w w' := by
  by_cases hn : 64 < es.length
  · exact writes_over f p es.length c w hE hn
  · exact writes_fits f hf p es c w hE hes h64 (by omega)
end Go.Proofs.YtmadabecpgjpjaaDoor
