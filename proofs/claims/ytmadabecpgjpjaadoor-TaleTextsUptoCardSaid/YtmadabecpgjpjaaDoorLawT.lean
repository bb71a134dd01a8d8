/- The laws TaleLines and TaleSteps: their walks. -/
import Derived.Test.YtmadabecpgjpjaaDoorAwakeT
namespace Go.Proofs.YtmadabecpgjpjaaDoor
open Go Go.RowKit Go.Shelf

theorem line_bad {k a b : Int} (ha : I64 a) (hb : I64 b) (w : World) (hE : Env w) (h : okT k a b 2 = false) :
    Calls Tryd.prog 10 #[.agg #[.int .i64 k, .int .i64 a, .int .i64 b]] w fun e w' => e = .returned (.tuple #[.string ⟨#[]⟩, .int .i64 1]) ∧ Below w.heap.size w w' := by
  have h1 := tline_any k a b ha hb w hE
  rw [(textT_no h).1, (textT_no h).2] at h1
  exact h1
theorem line_good {k a b : Int} (ha : I64 a) (hb : I64 b) (w : World) (hE : Env w) (h : okT k a b 2 = true) :
    Calls Tryd.prog 10 #[.agg #[.int .i64 k, .int .i64 a, .int .i64 b]] w fun e w' => e = .returned (.tuple #[.string (textT k a b), .int .i64 0]) ∧ Below w.heap.size w w' := by
  have h1 := tline_any k a b ha hb w hE
  rw [(textT_yes h).2] at h1
  exact h1
theorem ref_bad {k a b : Int} (ha : I64 a) (hb : I64 b) (w : World) (h : okT k a b 2 = false) :
    Calls Tryd.prog 11 #[.agg #[.int .i64 k, .int .i64 a, .int .i64 b]] w fun e w' => ∃ t, e = .returned (.tuple #[.string t, .bool false]) ∧ Below w.heap.size w w' := by
  by_cases hk : isT k = true
  · have h1 := line26_yes k a b ha hb hk w
    rw [h] at h1
    exact h1.mono fun e w' ⟨he, hw⟩ => ⟨_, he, hw⟩
  · exact (line26_no k a b (by simpa using hk) w).mono fun e w' ⟨he, hw⟩ => ⟨_, he, hw⟩
theorem ref_good {k a b : Int} (ha : I64 a) (hb : I64 b) (w : World) (h : okT k a b 2 = true) :
    Calls Tryd.prog 11 #[.agg #[.int .i64 k, .int .i64 a, .int .i64 b]] w fun e w' => e = .returned (.tuple #[.string (textT k a b), .bool true]) ∧ Below w.heap.size w w' := by
  have h1 := line26_yes k a b ha hb (okT_parts h).1 w
  rw [h, ← (textT_yes h).1] at h1
  exact h1
theorem textT_size {k a b : Int} (ha : I64 a) (hb : I64 b) : (textT k a b).size ≤ 60 := by
  unfold textT
  split
  · have h1 := tailT_len (numsT_i64 ha hb) (sizeT k)
    have h2 := sizeT_le k
    have h3 : (wordT k).data.toList.length ≤ 5 := by rw [Array.length_toList]; exact wordT_le k
    show ((wordT k).data.toList ++ tailT (numsT a b) (sizeT k)).toArray.size ≤ 60
    rw [List.size_toArray, List.length_append]
    omega
  · exact Nat.zero_le _
theorem step_text {k a b : Int} (ha : I64 a) (hb : I64 b) (h : okT k a b 2 = true) : stepT (textT k a b) = some (k, a, b) := by
  obtain ⟨h1, h2, h3⟩ := fits_line ha hb h
  rw [stepT_some (okT_parts h).1 h1, h2, h3]

set_option maxRecDepth 100000 in
set_option maxHeartbeats 1600000 in
theorem lines_bad (k a b : Int) (ha : I64 a) (hb : I64 b) (w : World) (hE : Env w) (h : okT k a b 2 = false) :
    Calls Tryd.prog 3 #[.agg #[.int .i64 k, .int .i64 a, .int .i64 b]] w fun e w' => e = .returned (.bool true) ∧ Below w.heap.size w w' := by
  have hz8 := hE.size
  have H := Lib.hid h
  clear h
  go_enter Tryd.func3, Tryd.ntmps3
  go_upto_region 1 with fail
  generalize hw2 : w.alloc _ = w2
  have hb2 : Below w.heap.size w w2 := by rw [← hw2]; exact (Below.refl _ w).alloc (Nat.le_refl _) _
  have hg := World.alloc_heap_new w (.cells #[.int .i64 k, .int .i64 a, .int .i64 b] 23)
  rw [hw2] at hg
  have hE2 := hE.below hb2 hz8
  have l1 := (Array.getElem?_eq_some_iff.1 hg).1
  have c0 := (Lib.cell_of_heap hg 0).trans (show _ = some (Value.int .i64 k) from rfl)
  have c1 := (Lib.cell_of_heap hg 1).trans (show _ = some (Value.int .i64 a) from rfl)
  have c2 := (Lib.cell_of_heap hg 2).trans (show _ = some (Value.int .i64 b) from rfl)
  clear hw2
  go_wp2_with (first
    | (go_at_call 10; refine (line_bad ha hb _ hE2 H.out).mono ?_; rintro e3 w3 ⟨rfl, hb3⟩; have hE3 := hE2.below hb3 hE2.size; have d0 := (hb3.cell (p := ⟨w.heap.size, 0, none⟩) l1).trans c0; have d1 := (hb3.cell (p := ⟨w.heap.size, 1, none⟩) l1).trans c1; have d2 := (hb3.cell (p := ⟨w.heap.size, 2, none⟩) l1).trans c2)
    | (go_at_call 11; refine (ref_bad ha hb _ H.out).mono ?_; rintro e4 w4 ⟨t, rfl, hb4⟩; have hE4 := hE3.below hb4 hE3.size)
    | (go_at_call 12; refine (awake26 _ hE4).mono ?_; rintro e5 w5 ⟨rfl, hb5⟩))
  go_ret
  have z3 := hb3.size
  have z4 := hb4.size
  have z2 := hb2.size
  exact ⟨rfl, ((hb2.trans (hb3.mono z2)).trans (hb4.mono (Nat.le_trans z2 z3))).trans (hb5.mono (Nat.le_trans z2 (Nat.le_trans z3 z4)))⟩

set_option maxRecDepth 100000 in
set_option maxHeartbeats 1600000 in
theorem lines_good (k a b : Int) (ha : I64 a) (hb : I64 b) (w : World) (hE : Env w) (h : okT k a b 2 = true) :
    Calls Tryd.prog 3 #[.agg #[.int .i64 k, .int .i64 a, .int .i64 b]] w fun e w' => e = .returned (.bool true) ∧ Below w.heap.size w w' := by
  have hz8 := hE.size
  have hst := step_text ha hb h
  have hts := textT_size (k := k) ha hb
  have H := Lib.hid h
  clear h
  obtain ⟨T, HT⟩ : ∃ T, Hid (T = textT k a b) := ⟨_, Lib.hid rfl⟩
  rw [← HT.out] at hst hts
  have HS := Lib.hid hst
  clear hst
  have L1 := fun (v : World) (hv : Env v) => line_good ha hb v hv H.out
  have L2 := fun (v : World) => ref_good ha hb v H.out
  rw [← HT.out] at L1 L2
  have hq : (T.toList == T.toList) = true := beq_self_eq_true _
  go_enter Tryd.func3, Tryd.ntmps3
  go_upto_region 1 with fail
  generalize hw2 : w.alloc _ = w2
  have hb2 : Below w.heap.size w w2 := by rw [← hw2]; exact (Below.refl _ w).alloc (Nat.le_refl _) _
  have hg := World.alloc_heap_new w (.cells #[.int .i64 k, .int .i64 a, .int .i64 b] 23)
  rw [hw2] at hg
  have hE2 := hE.below hb2 hz8
  have l1 := (Array.getElem?_eq_some_iff.1 hg).1
  have c0 := (Lib.cell_of_heap hg 0).trans (show _ = some (Value.int .i64 k) from rfl)
  have c1 := (Lib.cell_of_heap hg 1).trans (show _ = some (Value.int .i64 a) from rfl)
  have c2 := (Lib.cell_of_heap hg 2).trans (show _ = some (Value.int .i64 b) from rfl)
  clear hw2
  go_upto_region 6 with (first
    | (go_at_call 10; refine (L1 _ hE2).mono ?_; rintro e3 w3 ⟨rfl, hb3⟩; have hE3 := hE2.below hb3 hE2.size; have d0 := (hb3.cell (p := ⟨w.heap.size, 0, none⟩) l1).trans c0; have d1 := (hb3.cell (p := ⟨w.heap.size, 1, none⟩) l1).trans c1; have d2 := (hb3.cell (p := ⟨w.heap.size, 2, none⟩) l1).trans c2)
    | (go_at_call 11; refine (L2 _).mono ?_; rintro e4 w4 ⟨rfl, hb4⟩; have hE4 := hE3.below hb4 hE3.size)
    | (go_at_call 13; refine (step_yes T _ hE4 (by omega) k a b HS.out).mono ?_; rintro e5 w5 ⟨rfl, hb5⟩))
  generalize hw6 : w5.alloc _ = w6
  have hb6 : Below w5.heap.size w5 w6 := by rw [← hw6]; exact (Below.refl _ w5).alloc (Nat.le_refl _) _
  have hr := World.alloc_heap_new w5 (.cells #[.int .i64 k, .int .i64 a, .int .i64 b] 23)
  rw [hw6] at hr
  have z2 := hb2.size
  have z3 := hb3.size
  have z4 := hb4.size
  have z5 := hb5.size
  have hB : Below w.heap.size w w6 := (((hb2.trans (hb3.mono z2)).trans (hb4.mono (Nat.le_trans z2 z3))).trans (hb5.mono (Nat.le_trans z2 (Nat.le_trans z3 z4)))).trans (hb6.mono (Nat.le_trans z2 (Nat.le_trans z3 (Nat.le_trans z4 z5))))
  have hE6 := hE.below hB hz8
  have hg6 := (hb6.block _ (by omega)).trans ((hb5.block _ (by omega)).trans ((hb4.block _ (by omega)).trans ((hb3.block _ l1).trans hg)))
  have l6 := (Array.getElem?_eq_some_iff.1 hg6).1
  have m6 := (Array.getElem?_eq_some_iff.1 hr).1
  clear hw6 c0 c1 c2 d0 d1 d2
  go_wp2_with (go_at_call 12; refine (awake26 _ hE6).mono ?_; rintro e7 w7 ⟨rfl, hb7⟩; have hg7 := (hb7.block _ l6).trans hg6; have hr7 := (hb7.block _ m6).trans hr; have c0 := (Lib.cell_of_heap hg7 0).trans (show _ = some (Value.int .i64 k) from rfl); have c1 := (Lib.cell_of_heap hg7 1).trans (show _ = some (Value.int .i64 a) from rfl); have c2 := (Lib.cell_of_heap hg7 2).trans (show _ = some (Value.int .i64 b) from rfl); have d0 := (Lib.cell_of_heap hr7 0).trans (show _ = some (Value.int .i64 k) from rfl); have d1 := (Lib.cell_of_heap hr7 1).trans (show _ = some (Value.int .i64 a) from rfl); have d2 := (Lib.cell_of_heap hr7 2).trans (show _ = some (Value.int .i64 b) from rfl))
  go_ret
  exact ⟨rfl, hB.trans (hb7.mono hB.size)⟩

theorem lines_any (k a b : Int) (ha : I64 a) (hb : I64 b) (w : World) (hE : Env w) :
    Calls Tryd.prog 3 #[.agg #[.int .i64 k, .int .i64 a, .int .i64 b]] w fun e w' => e = .returned (.bool true) ∧ Below w.heap.size w w' := by
  cases h : okT k a b 2 with
  | true => exact lines_good k a b ha hb w hE h
  | false => exact lines_bad k a b ha hb w hE h

set_option maxRecDepth 100000 in
set_option maxHeartbeats 1600000 in
theorem steps_no (s : ByteArray) (w : World) (hE : Env w) (hs : s.size ≤ 1048576) (h : stepT s = none) :
    Calls Tryd.prog 4 #[.string s] w fun e w' => e = .returned (.bool true) ∧ Below w.heap.size w w' := by
  have hz8 := hE.size
  have H := Lib.hid h
  clear h
  go_enter Tryd.func4, Tryd.ntmps4
  go_upto_region 2 with (go_at_call 13; refine (step_no s _ hE hs H.out).mono ?_; rintro e1 w1 ⟨rfl, hb1⟩)
  generalize hw2 : w1.alloc _ = w2
  have hb2 : Below w.heap.size w w2 := by rw [← hw2]; exact hb1.alloc hb1.size _
  have hg := World.alloc_heap_new w1 (.cells #[.int .i64 0, .int .i64 0, .int .i64 0] 23)
  rw [hw2] at hg
  have hE2 := hE.below hb2 hz8
  have l1 := (Array.getElem?_eq_some_iff.1 hg).1
  clear hw2
  go_wp2_with (go_at_call 12; refine (awake26 _ hE2).mono ?_; rintro e7 w7 ⟨rfl, hb7⟩; have hg7 := (hb7.block _ l1).trans hg; have c0 := (Lib.cell_of_heap hg7 0).trans (show _ = some (Value.int .i64 0) from rfl); have c1 := (Lib.cell_of_heap hg7 1).trans (show _ = some (Value.int .i64 0) from rfl); have c2 := (Lib.cell_of_heap hg7 2).trans (show _ = some (Value.int .i64 0) from rfl))
  go_ret
  exact ⟨rfl, hb2.trans (hb7.mono hb2.size)⟩

set_option maxRecDepth 100000 in
set_option maxHeartbeats 1600000 in
theorem steps_yes (s : ByteArray) (w : World) (hE : Env w) (hs : s.size ≤ 1048576) (k a b : Int) (h : stepT s = some (k, a, b)) :
    Calls Tryd.prog 4 #[.string s] w fun e w' => e = .returned (.bool true) ∧ Below w.heap.size w w' := by
  have hz8 := hE.size
  obtain ⟨h1, h2, h3⟩ := stepT_inv h
  obtain ⟨h4, h5⟩ := fits_sound h1 h2
  simp only [Prod.mk.injEq, true_and] at h3
  rw [← h3.1, ← h3.2] at h4 h5
  have ha : I64 a := by rw [h3.1]; exact readT_i64 _ _ _
  have hb : I64 b := by rw [h3.2]; exact readT_i64 _ _ _
  have L2 := fun (v : World) => ref_good ha hb v h4
  have h5' : textT k a b = s := h5
  rw [h5'] at L2
  have H := Lib.hid h
  clear h h1 h2 h3 h4 h5 h5' ha hb
  have hq : (s.toList == s.toList) = true := beq_self_eq_true _
  go_enter Tryd.func4, Tryd.ntmps4
  go_upto_region 2 with (go_at_call 13; refine (step_yes s _ hE hs k a b H.out).mono ?_; rintro e1 w1 ⟨rfl, hb1⟩)
  generalize hw2 : w1.alloc _ = w2
  have hb2 : Below w.heap.size w w2 := by rw [← hw2]; exact hb1.alloc hb1.size _
  have hg := World.alloc_heap_new w1 (.cells #[.int .i64 k, .int .i64 a, .int .i64 b] 23)
  rw [hw2] at hg
  have hE2 := hE.below hb2 hz8
  have l1 := (Array.getElem?_eq_some_iff.1 hg).1
  have c0 := (Lib.cell_of_heap hg 0).trans (show _ = some (Value.int .i64 k) from rfl)
  have c1 := (Lib.cell_of_heap hg 1).trans (show _ = some (Value.int .i64 a) from rfl)
  have c2 := (Lib.cell_of_heap hg 2).trans (show _ = some (Value.int .i64 b) from rfl)
  clear hw2
  go_wp2_with (first
    | (go_at_call 11; refine (L2 _).mono ?_; rintro e4 w4 ⟨rfl, hb4⟩; have hE4 := hE2.below hb4 hE2.size)
    | (go_at_call 12; refine (awake26 _ hE4).mono ?_; rintro e7 w7 ⟨rfl, hb7⟩))
  go_ret
  exact ⟨rfl, (hb2.trans (hb4.mono hb2.size)).trans (hb7.mono (Nat.le_trans hb2.size hb4.size))⟩

theorem steps_any (s : ByteArray) (w : World) (hE : Env w) (hs : s.size ≤ 1048576) :
    Calls Tryd.prog 4 #[.string s] w fun e w' => e = .returned (.bool true) ∧ Below w.heap.size w w' := by
  rcases h : stepT s with _ | ⟨k, a, b⟩
  · exact steps_no s w hE hs h
  · exact steps_yes s w hE hs k a b h
end Go.Proofs.YtmadabecpgjpjaaDoor
