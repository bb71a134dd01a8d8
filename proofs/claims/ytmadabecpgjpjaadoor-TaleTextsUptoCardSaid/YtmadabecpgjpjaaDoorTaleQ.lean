/- offertorylaw26's own line. -/
import Derived.Test.YtmadabecpgjpjaaDoorDigB
import Derived.Test.YtmadabecpgjpjaaDoorTaleL
namespace Go.Proofs.YtmadabecpgjpjaaDoor
open Go.RowKit
set_option maxRecDepth 100000 in
set_option maxHeartbeats 1600000 in
theorem line26_no (k a b : Int) (hk : isT k = false) (w : World) :
    Calls Tryd.prog 11 #[.agg #[.int .i64 k, .int .i64 a, .int .i64 b]] w fun e w' => e = .returned (.tuple #[.string ⟨#[]⟩, .bool false]) ∧ Below w.heap.size w w' := by
  by_cases h1 : k < 1
  · have d1 : decide (k < 1) = true := by simpa using h1
    go_enter Tryd.func11, Tryd.ntmps11
    go_wp2
    go_ret2
    exact ⟨rfl, ((Below.refl _ w).alloc (Nat.le_refl _) _).alloc (by simp) _⟩
  · have d1 : decide (k < 1) = false := by simpa using h1
    have d2 : decide (7 < k) = true := by simp [isT] at hk; simp; omega
    go_enter Tryd.func11, Tryd.ntmps11
    go_wp2
    go_ret2
    exact ⟨rfl, ((Below.refl _ w).alloc (Nat.le_refl _) _).alloc (by simp) _⟩
theorem okT_two (k a b : Int) : okT k a b 2 = ((isT k && (decide ((0 : Int) < (sizeT k : Int)) || a == 0)) && (decide ((1 : Int) < (sizeT k : Int)) || b == 0)) := rfl
theorem dg26_call (n : Int) (h : I64 n) (w : World) :
    Calls Tryd.prog 24 #[.int .i64 n] w fun e w' => e = .returned (.string (dg n)) ∧ Below w.heap.size w w' := digits26_call n h.lo h.hi w
theorem two (w : World) (o1 o2 : Obj) : ((w.alloc o1).alloc o2).heap[w.heap.size]? = some o1 ∧ ((w.alloc o1).alloc o2).heap[w.heap.size + 1]? = some o2 := by
  refine ⟨?_, ?_⟩
  all_goals simp only [World.alloc, Array.getElem?_push, Array.size_push]
  all_goals simp

set_option maxRecDepth 100000 in
set_option maxHeartbeats 1600000 in
theorem line26_1 (a b : Int) (ha : I64 a) (hb : I64 b) (w : World) :
    Calls Tryd.prog 11 #[.agg #[.int .i64 1, .int .i64 a, .int .i64 b]] w fun e w' => e = .returned (.tuple #[.string (lineT ⟨#[115, 116, 97, 114, 116]⟩ 0 a b), .bool (a == 0 && b == 0)]) ∧ Below w.heap.size w w' := by
  have m1 := dg_size ha
  have m2 := dg_size hb
  have H1 := Lib.hid ha
  have H2 := Lib.hid hb
  clear ha hb
  go_enter Tryd.func11, Tryd.ntmps11
  go_upto_region 4 with fail
  generalize hw2 : World.alloc _ _ = w2
  have G := two w (.cells #[.int .i64 1, .int .i64 a, .int .i64 b] 23 (0, 0)) (.cells #[.string ⟨#[]⟩, .string ⟨#[115, 116, 97, 114, 116]⟩, .string ⟨#[98, 114, 105, 110, 103]⟩, .string ⟨#[108, 111, 115, 101]⟩, .string ⟨#[116, 119, 105, 110]⟩, .string ⟨#[98, 101, 110, 100]⟩, .string ⟨#[116, 105, 99, 107]⟩, .string ⟨#[102, 97, 108, 108]⟩] 9 (0, 0))
  have hW : (w.alloc (.cells #[.int .i64 1, .int .i64 a, .int .i64 b] 23 (0, 0))).alloc (.cells #[.string ⟨#[]⟩, .string ⟨#[115, 116, 97, 114, 116]⟩, .string ⟨#[98, 114, 105, 110, 103]⟩, .string ⟨#[108, 111, 115, 101]⟩, .string ⟨#[116, 119, 105, 110]⟩, .string ⟨#[98, 101, 110, 100]⟩, .string ⟨#[116, 105, 99, 107]⟩, .string ⟨#[102, 97, 108, 108]⟩] 9 (0, 0)) = w2 := hw2
  rw [hW] at G
  obtain ⟨g0, g1⟩ := G
  have hb2 : Below w.heap.size w w2 := by rw [← hw2]; exact ((Below.refl _ w).alloc (Nat.le_refl _) _).alloc (by simp) _
  clear hw2 hW
  have c0 : w2.cell? ⟨w.heap.size, 0, none⟩ = some (.int .i64 1) := (Lib.cell_of_heap g0 0).trans rfl
  have c1 : w2.cell? ⟨w.heap.size, 1, none⟩ = some (.int .i64 a) := (Lib.cell_of_heap g0 1).trans rfl
  have c2 : w2.cell? ⟨w.heap.size, 2, none⟩ = some (.int .i64 b) := (Lib.cell_of_heap g0 2).trans rfl
  have s1 : w2.cell? ⟨w.heap.size + 1, 1, none⟩ = some (.string ⟨#[115, 116, 97, 114, 116]⟩) := (Lib.cell_of_heap g1 1).trans rfl
  have lt2 : w.heap.size < w2.heap.size := (Array.getElem?_eq_some_iff.1 g0).1
  have z2 := hb2.size
  clear g0 g1
  have hx : (a == 0) = true ∨ (a == 0) = false := by cases (a == 0) <;> simp
  rcases hx with hx | hx
  · go_upto_region 9 with fail
    go_quiet (fail)
    go_wp2
    go_ret2
    exact ⟨by rw [hx, Bool.true_and]; simp [lineT, tailT], hb2.trans (below_drewN (Below.refl _ _) nq)⟩
  · go_upto_region 9 with fail
    go_quiet (fail)
    go_wp2
    go_ret2
    exact ⟨by rw [hx, Bool.false_and]; simp [lineT, tailT], hb2.trans (below_drewN (Below.refl _ _) nq)⟩

set_option maxRecDepth 100000 in
set_option maxHeartbeats 1600000 in
theorem line26_2 (a b : Int) (ha : I64 a) (hb : I64 b) (w : World) :
    Calls Tryd.prog 11 #[.agg #[.int .i64 2, .int .i64 a, .int .i64 b]] w fun e w' => e = .returned (.tuple #[.string (lineT ⟨#[98, 114, 105, 110, 103]⟩ 1 a b), .bool (b == 0)]) ∧ Below w.heap.size w w' := by
  have m1 := dg_size ha
  have m2 := dg_size hb
  have H1 := Lib.hid ha
  have H2 := Lib.hid hb
  clear ha hb
  go_enter Tryd.func11, Tryd.ntmps11
  go_upto_region 4 with fail
  generalize hw2 : World.alloc _ _ = w2
  have G := two w (.cells #[.int .i64 2, .int .i64 a, .int .i64 b] 23 (0, 0)) (.cells #[.string ⟨#[]⟩, .string ⟨#[115, 116, 97, 114, 116]⟩, .string ⟨#[98, 114, 105, 110, 103]⟩, .string ⟨#[108, 111, 115, 101]⟩, .string ⟨#[116, 119, 105, 110]⟩, .string ⟨#[98, 101, 110, 100]⟩, .string ⟨#[116, 105, 99, 107]⟩, .string ⟨#[102, 97, 108, 108]⟩] 9 (0, 0))
  have hW : (w.alloc (.cells #[.int .i64 2, .int .i64 a, .int .i64 b] 23 (0, 0))).alloc (.cells #[.string ⟨#[]⟩, .string ⟨#[115, 116, 97, 114, 116]⟩, .string ⟨#[98, 114, 105, 110, 103]⟩, .string ⟨#[108, 111, 115, 101]⟩, .string ⟨#[116, 119, 105, 110]⟩, .string ⟨#[98, 101, 110, 100]⟩, .string ⟨#[116, 105, 99, 107]⟩, .string ⟨#[102, 97, 108, 108]⟩] 9 (0, 0)) = w2 := hw2
  rw [hW] at G
  obtain ⟨g0, g1⟩ := G
  have hb2 : Below w.heap.size w w2 := by rw [← hw2]; exact ((Below.refl _ w).alloc (Nat.le_refl _) _).alloc (by simp) _
  clear hw2 hW
  have c0 : w2.cell? ⟨w.heap.size, 0, none⟩ = some (.int .i64 2) := (Lib.cell_of_heap g0 0).trans rfl
  have c1 : w2.cell? ⟨w.heap.size, 1, none⟩ = some (.int .i64 a) := (Lib.cell_of_heap g0 1).trans rfl
  have c2 : w2.cell? ⟨w.heap.size, 2, none⟩ = some (.int .i64 b) := (Lib.cell_of_heap g0 2).trans rfl
  have s2 : w2.cell? ⟨w.heap.size + 1, 2, none⟩ = some (.string ⟨#[98, 114, 105, 110, 103]⟩) := (Lib.cell_of_heap g1 2).trans rfl
  have lt2 : w.heap.size < w2.heap.size := (Array.getElem?_eq_some_iff.1 g0).1
  have z2 := hb2.size
  go_upto_region 9 with (go_at_call 24; refine (dg26_call a H1.out _).mono ?_; rintro e1 w3 ⟨rfl, hb3⟩; have d0 := (hb3.cell (p := ⟨w.heap.size, 0, none⟩) lt2).trans c0; have d1 := (hb3.cell (p := ⟨w.heap.size, 1, none⟩) lt2).trans c1; have d2 := (hb3.cell (p := ⟨w.heap.size, 2, none⟩) lt2).trans c2)
  clear c0 c1 c2 s2 g0 g1 m1 m2
  go_quiet (fail)
  go_wp2
  go_ret2
  exact ⟨by simp [lineT, tailT, numsT, bcat, dg], (hb2.trans (hb3.mono z2)).trans (below_drewN (Below.refl _ _) nq)⟩

set_option maxRecDepth 100000 in
set_option maxHeartbeats 1600000 in
theorem line26_3 (a b : Int) (ha : I64 a) (hb : I64 b) (w : World) :
    Calls Tryd.prog 11 #[.agg #[.int .i64 3, .int .i64 a, .int .i64 b]] w fun e w' => e = .returned (.tuple #[.string (lineT ⟨#[108, 111, 115, 101]⟩ 1 a b), .bool (b == 0)]) ∧ Below w.heap.size w w' := by
  have m1 := dg_size ha
  have m2 := dg_size hb
  have H1 := Lib.hid ha
  have H2 := Lib.hid hb
  clear ha hb
  go_enter Tryd.func11, Tryd.ntmps11
  go_upto_region 4 with fail
  generalize hw2 : World.alloc _ _ = w2
  have G := two w (.cells #[.int .i64 3, .int .i64 a, .int .i64 b] 23 (0, 0)) (.cells #[.string ⟨#[]⟩, .string ⟨#[115, 116, 97, 114, 116]⟩, .string ⟨#[98, 114, 105, 110, 103]⟩, .string ⟨#[108, 111, 115, 101]⟩, .string ⟨#[116, 119, 105, 110]⟩, .string ⟨#[98, 101, 110, 100]⟩, .string ⟨#[116, 105, 99, 107]⟩, .string ⟨#[102, 97, 108, 108]⟩] 9 (0, 0))
  have hW : (w.alloc (.cells #[.int .i64 3, .int .i64 a, .int .i64 b] 23 (0, 0))).alloc (.cells #[.string ⟨#[]⟩, .string ⟨#[115, 116, 97, 114, 116]⟩, .string ⟨#[98, 114, 105, 110, 103]⟩, .string ⟨#[108, 111, 115, 101]⟩, .string ⟨#[116, 119, 105, 110]⟩, .string ⟨#[98, 101, 110, 100]⟩, .string ⟨#[116, 105, 99, 107]⟩, .string ⟨#[102, 97, 108, 108]⟩] 9 (0, 0)) = w2 := hw2
  rw [hW] at G
  obtain ⟨g0, g1⟩ := G
  have hb2 : Below w.heap.size w w2 := by rw [← hw2]; exact ((Below.refl _ w).alloc (Nat.le_refl _) _).alloc (by simp) _
  clear hw2 hW
  have c0 : w2.cell? ⟨w.heap.size, 0, none⟩ = some (.int .i64 3) := (Lib.cell_of_heap g0 0).trans rfl
  have c1 : w2.cell? ⟨w.heap.size, 1, none⟩ = some (.int .i64 a) := (Lib.cell_of_heap g0 1).trans rfl
  have c2 : w2.cell? ⟨w.heap.size, 2, none⟩ = some (.int .i64 b) := (Lib.cell_of_heap g0 2).trans rfl
  have s3 : w2.cell? ⟨w.heap.size + 1, 3, none⟩ = some (.string ⟨#[108, 111, 115, 101]⟩) := (Lib.cell_of_heap g1 3).trans rfl
  have lt2 : w.heap.size < w2.heap.size := (Array.getElem?_eq_some_iff.1 g0).1
  have z2 := hb2.size
  go_upto_region 9 with (go_at_call 24; refine (dg26_call a H1.out _).mono ?_; rintro e1 w3 ⟨rfl, hb3⟩; have d0 := (hb3.cell (p := ⟨w.heap.size, 0, none⟩) lt2).trans c0; have d1 := (hb3.cell (p := ⟨w.heap.size, 1, none⟩) lt2).trans c1; have d2 := (hb3.cell (p := ⟨w.heap.size, 2, none⟩) lt2).trans c2)
  clear c0 c1 c2 s3 g0 g1 m1 m2
  go_quiet (fail)
  go_wp2
  go_ret2
  exact ⟨by simp [lineT, tailT, numsT, bcat, dg], (hb2.trans (hb3.mono z2)).trans (below_drewN (Below.refl _ _) nq)⟩

set_option maxRecDepth 100000 in
set_option maxHeartbeats 1600000 in
theorem line26_4 (a b : Int) (ha : I64 a) (hb : I64 b) (w : World) :
    Calls Tryd.prog 11 #[.agg #[.int .i64 4, .int .i64 a, .int .i64 b]] w fun e w' => e = .returned (.tuple #[.string (lineT ⟨#[116, 119, 105, 110]⟩ 1 a b), .bool (b == 0)]) ∧ Below w.heap.size w w' := by
  have m1 := dg_size ha
  have m2 := dg_size hb
  have H1 := Lib.hid ha
  have H2 := Lib.hid hb
  clear ha hb
  go_enter Tryd.func11, Tryd.ntmps11
  go_upto_region 4 with fail
  generalize hw2 : World.alloc _ _ = w2
  have G := two w (.cells #[.int .i64 4, .int .i64 a, .int .i64 b] 23 (0, 0)) (.cells #[.string ⟨#[]⟩, .string ⟨#[115, 116, 97, 114, 116]⟩, .string ⟨#[98, 114, 105, 110, 103]⟩, .string ⟨#[108, 111, 115, 101]⟩, .string ⟨#[116, 119, 105, 110]⟩, .string ⟨#[98, 101, 110, 100]⟩, .string ⟨#[116, 105, 99, 107]⟩, .string ⟨#[102, 97, 108, 108]⟩] 9 (0, 0))
  have hW : (w.alloc (.cells #[.int .i64 4, .int .i64 a, .int .i64 b] 23 (0, 0))).alloc (.cells #[.string ⟨#[]⟩, .string ⟨#[115, 116, 97, 114, 116]⟩, .string ⟨#[98, 114, 105, 110, 103]⟩, .string ⟨#[108, 111, 115, 101]⟩, .string ⟨#[116, 119, 105, 110]⟩, .string ⟨#[98, 101, 110, 100]⟩, .string ⟨#[116, 105, 99, 107]⟩, .string ⟨#[102, 97, 108, 108]⟩] 9 (0, 0)) = w2 := hw2
  rw [hW] at G
  obtain ⟨g0, g1⟩ := G
  have hb2 : Below w.heap.size w w2 := by rw [← hw2]; exact ((Below.refl _ w).alloc (Nat.le_refl _) _).alloc (by simp) _
  clear hw2 hW
  have c0 : w2.cell? ⟨w.heap.size, 0, none⟩ = some (.int .i64 4) := (Lib.cell_of_heap g0 0).trans rfl
  have c1 : w2.cell? ⟨w.heap.size, 1, none⟩ = some (.int .i64 a) := (Lib.cell_of_heap g0 1).trans rfl
  have c2 : w2.cell? ⟨w.heap.size, 2, none⟩ = some (.int .i64 b) := (Lib.cell_of_heap g0 2).trans rfl
  have s4 : w2.cell? ⟨w.heap.size + 1, 4, none⟩ = some (.string ⟨#[116, 119, 105, 110]⟩) := (Lib.cell_of_heap g1 4).trans rfl
  have lt2 : w.heap.size < w2.heap.size := (Array.getElem?_eq_some_iff.1 g0).1
  have z2 := hb2.size
  go_upto_region 9 with (go_at_call 24; refine (dg26_call a H1.out _).mono ?_; rintro e1 w3 ⟨rfl, hb3⟩; have d0 := (hb3.cell (p := ⟨w.heap.size, 0, none⟩) lt2).trans c0; have d1 := (hb3.cell (p := ⟨w.heap.size, 1, none⟩) lt2).trans c1; have d2 := (hb3.cell (p := ⟨w.heap.size, 2, none⟩) lt2).trans c2)
  clear c0 c1 c2 s4 g0 g1 m1 m2
  go_quiet (fail)
  go_wp2
  go_ret2
  exact ⟨by simp [lineT, tailT, numsT, bcat, dg], (hb2.trans (hb3.mono z2)).trans (below_drewN (Below.refl _ _) nq)⟩

set_option maxRecDepth 100000 in
set_option maxHeartbeats 1600000 in
theorem line26_5 (a b : Int) (ha : I64 a) (hb : I64 b) (w : World) :
    Calls Tryd.prog 11 #[.agg #[.int .i64 5, .int .i64 a, .int .i64 b]] w fun e w' => e = .returned (.tuple #[.string (lineT ⟨#[98, 101, 110, 100]⟩ 2 a b), .bool true]) ∧ Below w.heap.size w w' := by
  have m1 := dg_size ha
  have m2 := dg_size hb
  have H1 := Lib.hid ha
  have H2 := Lib.hid hb
  clear ha hb
  go_enter Tryd.func11, Tryd.ntmps11
  go_upto_region 4 with fail
  generalize hw2 : World.alloc _ _ = w2
  have G := two w (.cells #[.int .i64 5, .int .i64 a, .int .i64 b] 23 (0, 0)) (.cells #[.string ⟨#[]⟩, .string ⟨#[115, 116, 97, 114, 116]⟩, .string ⟨#[98, 114, 105, 110, 103]⟩, .string ⟨#[108, 111, 115, 101]⟩, .string ⟨#[116, 119, 105, 110]⟩, .string ⟨#[98, 101, 110, 100]⟩, .string ⟨#[116, 105, 99, 107]⟩, .string ⟨#[102, 97, 108, 108]⟩] 9 (0, 0))
  have hW : (w.alloc (.cells #[.int .i64 5, .int .i64 a, .int .i64 b] 23 (0, 0))).alloc (.cells #[.string ⟨#[]⟩, .string ⟨#[115, 116, 97, 114, 116]⟩, .string ⟨#[98, 114, 105, 110, 103]⟩, .string ⟨#[108, 111, 115, 101]⟩, .string ⟨#[116, 119, 105, 110]⟩, .string ⟨#[98, 101, 110, 100]⟩, .string ⟨#[116, 105, 99, 107]⟩, .string ⟨#[102, 97, 108, 108]⟩] 9 (0, 0)) = w2 := hw2
  rw [hW] at G
  obtain ⟨g0, g1⟩ := G
  have hb2 : Below w.heap.size w w2 := by rw [← hw2]; exact ((Below.refl _ w).alloc (Nat.le_refl _) _).alloc (by simp) _
  clear hw2 hW
  have c0 : w2.cell? ⟨w.heap.size, 0, none⟩ = some (.int .i64 5) := (Lib.cell_of_heap g0 0).trans rfl
  have c1 : w2.cell? ⟨w.heap.size, 1, none⟩ = some (.int .i64 a) := (Lib.cell_of_heap g0 1).trans rfl
  have c2 : w2.cell? ⟨w.heap.size, 2, none⟩ = some (.int .i64 b) := (Lib.cell_of_heap g0 2).trans rfl
  have s5 : w2.cell? ⟨w.heap.size + 1, 5, none⟩ = some (.string ⟨#[98, 101, 110, 100]⟩) := (Lib.cell_of_heap g1 5).trans rfl
  have lt2 : w.heap.size < w2.heap.size := (Array.getElem?_eq_some_iff.1 g0).1
  have z2 := hb2.size
  go_upto_region 8 with (go_at_call 24; refine (dg26_call a H1.out _).mono ?_; rintro e1 w3 ⟨rfl, hb3⟩; have d0 := (hb3.cell (p := ⟨w.heap.size, 0, none⟩) lt2).trans c0; have d1 := (hb3.cell (p := ⟨w.heap.size, 1, none⟩) lt2).trans c1; have d2 := (hb3.cell (p := ⟨w.heap.size, 2, none⟩) lt2).trans c2)
  have lt3 : w.heap.size < w3.heap.size := Nat.lt_of_lt_of_le lt2 hb3.size
  clear c0 c1 c2 s5 g0 g1
  go_upto_region 9 with (go_at_call 24; refine (dg26_call b H2.out _).mono ?_; rintro e1 w4 ⟨rfl, hb4⟩; have q0 := (hb4.cell (p := ⟨w.heap.size, 0, none⟩) lt3).trans d0; have q1 := (hb4.cell (p := ⟨w.heap.size, 1, none⟩) lt3).trans d1; have q2 := (hb4.cell (p := ⟨w.heap.size, 2, none⟩) lt3).trans d2)
  clear d0 d1 d2 m1 m2
  go_quiet (fail)
  go_wp2
  go_ret2
  exact ⟨by simp [lineT, tailT, numsT, bcat, dg], ((hb2.trans (hb3.mono z2)).trans (hb4.mono (Nat.le_trans z2 hb3.size))).trans (below_drewN (Below.refl _ _) nq)⟩

set_option maxRecDepth 100000 in
set_option maxHeartbeats 1600000 in
theorem line26_6 (a b : Int) (ha : I64 a) (hb : I64 b) (w : World) :
    Calls Tryd.prog 11 #[.agg #[.int .i64 6, .int .i64 a, .int .i64 b]] w fun e w' => e = .returned (.tuple #[.string (lineT ⟨#[116, 105, 99, 107]⟩ 1 a b), .bool (b == 0)]) ∧ Below w.heap.size w w' := by
  have m1 := dg_size ha
  have m2 := dg_size hb
  have H1 := Lib.hid ha
  have H2 := Lib.hid hb
  clear ha hb
  go_enter Tryd.func11, Tryd.ntmps11
  go_upto_region 4 with fail
  generalize hw2 : World.alloc _ _ = w2
  have G := two w (.cells #[.int .i64 6, .int .i64 a, .int .i64 b] 23 (0, 0)) (.cells #[.string ⟨#[]⟩, .string ⟨#[115, 116, 97, 114, 116]⟩, .string ⟨#[98, 114, 105, 110, 103]⟩, .string ⟨#[108, 111, 115, 101]⟩, .string ⟨#[116, 119, 105, 110]⟩, .string ⟨#[98, 101, 110, 100]⟩, .string ⟨#[116, 105, 99, 107]⟩, .string ⟨#[102, 97, 108, 108]⟩] 9 (0, 0))
  have hW : (w.alloc (.cells #[.int .i64 6, .int .i64 a, .int .i64 b] 23 (0, 0))).alloc (.cells #[.string ⟨#[]⟩, .string ⟨#[115, 116, 97, 114, 116]⟩, .string ⟨#[98, 114, 105, 110, 103]⟩, .string ⟨#[108, 111, 115, 101]⟩, .string ⟨#[116, 119, 105, 110]⟩, .string ⟨#[98, 101, 110, 100]⟩, .string ⟨#[116, 105, 99, 107]⟩, .string ⟨#[102, 97, 108, 108]⟩] 9 (0, 0)) = w2 := hw2
  rw [hW] at G
  obtain ⟨g0, g1⟩ := G
  have hb2 : Below w.heap.size w w2 := by rw [← hw2]; exact ((Below.refl _ w).alloc (Nat.le_refl _) _).alloc (by simp) _
  clear hw2 hW
  have c0 : w2.cell? ⟨w.heap.size, 0, none⟩ = some (.int .i64 6) := (Lib.cell_of_heap g0 0).trans rfl
  have c1 : w2.cell? ⟨w.heap.size, 1, none⟩ = some (.int .i64 a) := (Lib.cell_of_heap g0 1).trans rfl
  have c2 : w2.cell? ⟨w.heap.size, 2, none⟩ = some (.int .i64 b) := (Lib.cell_of_heap g0 2).trans rfl
  have s6 : w2.cell? ⟨w.heap.size + 1, 6, none⟩ = some (.string ⟨#[116, 105, 99, 107]⟩) := (Lib.cell_of_heap g1 6).trans rfl
  have lt2 : w.heap.size < w2.heap.size := (Array.getElem?_eq_some_iff.1 g0).1
  have z2 := hb2.size
  go_upto_region 9 with (go_at_call 24; refine (dg26_call a H1.out _).mono ?_; rintro e1 w3 ⟨rfl, hb3⟩; have d0 := (hb3.cell (p := ⟨w.heap.size, 0, none⟩) lt2).trans c0; have d1 := (hb3.cell (p := ⟨w.heap.size, 1, none⟩) lt2).trans c1; have d2 := (hb3.cell (p := ⟨w.heap.size, 2, none⟩) lt2).trans c2)
  clear c0 c1 c2 s6 g0 g1 m1 m2
  go_quiet (fail)
  go_wp2
  go_ret2
  exact ⟨by simp [lineT, tailT, numsT, bcat, dg], (hb2.trans (hb3.mono z2)).trans (below_drewN (Below.refl _ _) nq)⟩

set_option maxRecDepth 100000 in
set_option maxHeartbeats 1600000 in
theorem line26_7 (a b : Int) (ha : I64 a) (hb : I64 b) (w : World) :
    Calls Tryd.prog 11 #[.agg #[.int .i64 7, .int .i64 a, .int .i64 b]] w fun e w' => e = .returned (.tuple #[.string (lineT ⟨#[102, 97, 108, 108]⟩ 1 a b), .bool (b == 0)]) ∧ Below w.heap.size w w' := by
  have m1 := dg_size ha
  have m2 := dg_size hb
  have H1 := Lib.hid ha
  have H2 := Lib.hid hb
  clear ha hb
  go_enter Tryd.func11, Tryd.ntmps11
  go_upto_region 4 with fail
  generalize hw2 : World.alloc _ _ = w2
  have G := two w (.cells #[.int .i64 7, .int .i64 a, .int .i64 b] 23 (0, 0)) (.cells #[.string ⟨#[]⟩, .string ⟨#[115, 116, 97, 114, 116]⟩, .string ⟨#[98, 114, 105, 110, 103]⟩, .string ⟨#[108, 111, 115, 101]⟩, .string ⟨#[116, 119, 105, 110]⟩, .string ⟨#[98, 101, 110, 100]⟩, .string ⟨#[116, 105, 99, 107]⟩, .string ⟨#[102, 97, 108, 108]⟩] 9 (0, 0))
  have hW : (w.alloc (.cells #[.int .i64 7, .int .i64 a, .int .i64 b] 23 (0, 0))).alloc (.cells #[.string ⟨#[]⟩, .string ⟨#[115, 116, 97, 114, 116]⟩, .string ⟨#[98, 114, 105, 110, 103]⟩, .string ⟨#[108, 111, 115, 101]⟩, .string ⟨#[116, 119, 105, 110]⟩, .string ⟨#[98, 101, 110, 100]⟩, .string ⟨#[116, 105, 99, 107]⟩, .string ⟨#[102, 97, 108, 108]⟩] 9 (0, 0)) = w2 := hw2
  rw [hW] at G
  obtain ⟨g0, g1⟩ := G
  have hb2 : Below w.heap.size w w2 := by rw [← hw2]; exact ((Below.refl _ w).alloc (Nat.le_refl _) _).alloc (by simp) _
  clear hw2 hW
  have c0 : w2.cell? ⟨w.heap.size, 0, none⟩ = some (.int .i64 7) := (Lib.cell_of_heap g0 0).trans rfl
  have c1 : w2.cell? ⟨w.heap.size, 1, none⟩ = some (.int .i64 a) := (Lib.cell_of_heap g0 1).trans rfl
  have c2 : w2.cell? ⟨w.heap.size, 2, none⟩ = some (.int .i64 b) := (Lib.cell_of_heap g0 2).trans rfl
  have s7 : w2.cell? ⟨w.heap.size + 1, 7, none⟩ = some (.string ⟨#[102, 97, 108, 108]⟩) := (Lib.cell_of_heap g1 7).trans rfl
  have lt2 : w.heap.size < w2.heap.size := (Array.getElem?_eq_some_iff.1 g0).1
  have z2 := hb2.size
  go_upto_region 9 with (go_at_call 24; refine (dg26_call a H1.out _).mono ?_; rintro e1 w3 ⟨rfl, hb3⟩; have d0 := (hb3.cell (p := ⟨w.heap.size, 0, none⟩) lt2).trans c0; have d1 := (hb3.cell (p := ⟨w.heap.size, 1, none⟩) lt2).trans c1; have d2 := (hb3.cell (p := ⟨w.heap.size, 2, none⟩) lt2).trans c2)
  clear c0 c1 c2 s7 g0 g1 m1 m2
  go_quiet (fail)
  go_wp2
  go_ret2
  exact ⟨by simp [lineT, tailT, numsT, bcat, dg], (hb2.trans (hb3.mono z2)).trans (below_drewN (Below.refl _ _) nq)⟩
end Go.Proofs.YtmadabecpgjpjaaDoor
