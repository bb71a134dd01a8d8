/- tale.Step. -/
import Derived.Test.YtmadabecpgjpjaaDoorTaleM
namespace Go.Proofs.YtmadabecpgjpjaaDoor
open Go.RowKit

theorem first_new2 (w : World) (o1 : Obj) : (w.alloc o1).heap[w.heap.size]? = some o1 := by
  simp only [World.alloc, Array.getElem?_push]
  simp
theorem rd_at (xs : List ByteArray) (j : Nat) (hj : j < 2) : (#[Value.int .i64 (readT xs j 0), Value.int .i64 (readT xs j 1)] : Array Value)[j]? = some (.int .i64 (readT xs j j)) := by
  match j, hj with
  | 0, _ => rfl
  | 1, _ => rfl
theorem rd_set (xs : List ByteArray) (j : Nat) (hj : j < 2) : (#[Value.int .i64 (readT xs j 0), Value.int .i64 (readT xs j 1)] : Array Value).setIfInBounds j (.int .i64 (atoiV (xs.getD (j + 1) ⟨#[]⟩).data.toList).1) = #[Value.int .i64 (readT xs (j + 1) 0), Value.int .i64 (readT xs (j + 1) 1)] := by
  match j, hj with
  | 0, _ => simp [readT]
  | 1, _ => simp [readT]
theorem two2 (w : World) (o1 o2 : Obj) : ((w.alloc o1).alloc o2).heap[w.heap.size]? = some o1 ∧ ((w.alloc o1).alloc o2).heap[w.heap.size + 1]? = some o2 := by
  refine ⟨?_, ?_⟩
  all_goals simp only [World.alloc, Array.getElem?_push, Array.size_push]
  all_goals simp

set_option maxRecDepth 100000 in
set_option maxHeartbeats 1600000 in
theorem step_any (s : ByteArray) (w : World) (hE : Env w) (hs : s.size ≤ 1048576) :
    Calls Tryd.prog 13 #[.string s] w fun e w' => Below w.heap.size w w' ∧
      ((∃ k : Int, isT k = true ∧ fitsT s k = true ∧ e = .returned (.tuple #[.agg #[.int .i64 k, .int .i64 (readT (wordsOf s) (sizeT k) 0), .int .i64 (readT (wordsOf s) (sizeT k) 1)], .int .i64 0])) ∨
       ((∀ k : Int, isT k = true → fitsT s k = false) ∧ e = .returned (.tuple #[.agg #[.int .i64 0, .int .i64 0, .int .i64 0], .int .i64 5]))) := by
  have hl := wordsOf_length s
  have hle := Lib.countB_le ⟨#[32]⟩ (by decide) s.size s (Nat.le_refl _)
  have Hl := Lib.hid hl
  clear hl
  go_enter Tryd.func13, Tryd.ntmps13
  go_upto_region 2 with (go_at_call 25; refine (split_call s _ (hE.below (Below.refl _ w |>.alloc (Nat.le_refl _) _) hE.size) (by omega)).mono ?_; rintro e1 w1 ⟨rfl, rfl⟩)
  obtain ⟨N, HN⟩ : ∃ N, Hid (N = Lib.countB s ⟨#[32]⟩ + 1) := ⟨_, Lib.hid rfl⟩
  rw [← HN.out]
  have hN : N = (wordsOf s).length := by rw [HN.out, Hl.out]
  have hN1 : N ≤ 1048577 := by rw [HN.out]; omega
  have hN0 : 0 < N := by rw [HN.out]; omega
  generalize hw2 : World.alloc _ _ = w2
  have hb2 : Below w.heap.size w w2 := by rw [← hw2]; exact ((Below.refl _ w).alloc (Nat.le_refl _) _).alloc (by simp) _
  have G := two2 w (.cells #[.int .i64 0, .int .i64 0, .int .i64 0] 23 (0, 0)) (.cells ((wordsOf s).map Value.string).toArray 9 (0, 0))
  have hW : (w.alloc (.cells #[.int .i64 0, .int .i64 0, .int .i64 0] 23 (0, 0))).alloc (.cells ((wordsOf s).map Value.string).toArray 9 (0, 0)) = w2 := hw2
  rw [hW] at G
  obtain ⟨g0, g1⟩ := G
  have hs2 : w2.heap.size = w.heap.size + 2 := by rw [← hw2]; simp
  clear hw2 hW
  have hE2 := hE.below hb2 hE.size
  have xc : ∀ j, j < N → w2.cell? ⟨w.heap.size + 1, j, none⟩ = some (.string ((wordsOf s).getD j ⟨#[]⟩)) := fun j hj => (Lib.cell_of_heap g1 j).trans (by
    have hj' : j < (wordsOf s).length := by omega
    simp [List.getD, List.getElem?_eq_getElem hj'])
  have XC := Lib.hid xc
  have HL := Lib.hid hN
  clear xc g1 hN
  go_wp2
  go_loopw [5] (fun i wr => ∃ k : Nat, 1 ≤ k ∧ k ≤ 8 ∧ i = .int .i64 k ∧ Below (w.heap.size + 2) w2 wr ∧ ∀ j : Nat, 1 ≤ j → j < k → fitsT s j = false)
    (fun i _ => 8 - (intOf i).toNat)
  case atStart => exact ⟨1, by omega, by omega, rfl, Below.refl _ _, fun j h1 h2 => by omega⟩
  case round =>
    obtain ⟨k, hk1, hk8, rfl, hr, hno⟩ := hrel
    have Hno := Lib.hid hno
    clear hno
    have hzr := hr.size
    by_cases hlt : k ≤ 7
    · have hd : decide ((k : Int) ≤ 7) = true := by simp; omega
      obtain ⟨wd, Hwd⟩ : ∃ wd, Hid (wd = wordT k) := ⟨_, Lib.hid rfl⟩
      obtain ⟨n, Hn⟩ : ∃ n, Hid (n = sizeT k) := ⟨_, Lib.hid rfl⟩
      go_upto_region 6 with (go_at_call 22; refine (forms_any k _).mono ?_; rw [← Hn.out, ← Hwd.out]; rintro e1 w3 ⟨rfl, hb3⟩)
      generalize hw4 : w3.alloc _ = w4
      have hb4 : Below wr.heap.size wr w4 := by rw [← hw4]; exact hb3.alloc hb3.size _
      have f0 : w4.cell? ⟨w3.heap.size, 0, none⟩ = some (.string wd) := by rw [← hw4]; simp
      have f1 : w4.cell? ⟨w3.heap.size, 1, none⟩ = some (.int .i64 n) := by rw [← hw4]; simp
      have hs4 : w4.heap.size = w3.heap.size + 1 := by rw [← hw4]; simp
      have hs3 := hb3.size
      have hr4 : Below (w.heap.size + 2) w2 w4 := hr.trans (hb4.mono (by omega))
      have x0 := (hr4.cell (p := ⟨w.heap.size + 1, 0, none⟩) (by show w.heap.size + 1 < _; omega)).trans (XC.out 0 hN0)
      clear hw4 hb3 hb4
      have hn2 : n ≤ 2 := by rw [Hn.out]; exact sizeT_le k
      obtain ⟨X, HX⟩ : ∃ X, Hid (X = (wordsOf s).getD 0 ⟨#[]⟩) := ⟨_, Lib.hid rfl⟩
      rw [← HX.out] at x0
      have hfit : fitsT s k = (wd == X && N == n + 1 && lineT wd n (readT (wordsOf s) n 0) (readT (wordsOf s) n 1) == s) := by unfold fitsT; rw [Hwd.out, Hn.out, HX.out, HL.out]
      have HF := Lib.hid hfit
      clear hfit
      have hnext : fitsT s k = false → ∀ j : Nat, 1 ≤ j → j < k + 1 → fitsT s j = false := fun h j h1 h2 => by
        rcases Nat.lt_or_ge j k with h3 | h3
        · exact Hno.out j h1 h3
        · obtain rfl : j = k := by omega
          exact h
      have HT := Lib.hid hnext
      clear hnext
      have k0 : (0 : Int) ≤ (n : Int) := Int.natCast_nonneg _
      have i1 : (0 : Int) < (N : Int) := by omega
      have hx : (wd.toList == X.toList) = true ∨ (wd.toList == X.toList) = false := by cases (wd.toList == X.toList) <;> simp
      rcases hx with hx | hx
      · have hc : ((N : Int) != (n : Int) + 1) = true ∨ ((N : Int) != (n : Int) + 1) = false := by cases ((N : Int) != (n : Int) + 1) <;> simp
        rcases hc with hc | hc
        · have Hno2 : Hid (fitsT s k = false) := by
            have e : (N == n + 1) = false := by simp at hc ⊢; omega
            exact Lib.hid (by rw [HF.out, e]; simp)
          go_quiet (fail)
          go_wp2
          go_roundw
          case rel => exact ⟨k + 1, by omega, by omega, by go_num, hr4.trans (below_drewN (Below.refl _ _) nq), HT.out Hno2.out⟩
          case measure => simp [intOf]; omega
        · obtain rfl : N = n + 1 := by simp at hc; omega
          have HF2 : Hid (fitsT s k = (lineT wd n (readT (wordsOf s) n 0) (readT (wordsOf s) n 1) == s)) := by
            have e : (wd == X) = true := by rw [beq_toListBytes]; exact hx
            exact Lib.hid (by rw [HF.out, e]; simp)
          rcases Nat.eq_zero_or_pos n with hn0 | hn0
          · subst hn0
            go_upto_region 7 with fail
            go_quiet (fail)
            go_upto_region 8 with fail
            generalize hw5 : World.alloc _ _ = w5
            have hb5 : Below w4.heap.size w4 w5 := by rw [← hw5]; exact (below_drewN (Below.refl _ _) nq).alloc (by simp) _
            have hA : w5.heap[w3.heap.size + 1]? = some (.cells #[.int .i64 (readT (wordsOf s) 0 0), .int .i64 (readT (wordsOf s) 0 1)] 54 (0, 0)) := by
              rw [← hw5, ← hs4]
              exact first_new2 (w4.drewN nq) _
            have hs5 : w5.heap.size = w3.heap.size + 2 := by rw [← hw5]; simp; omega
            have q0 := (hb5.cell (p := ⟨w3.heap.size, 0, none⟩) (by show w3.heap.size < _; omega)).trans f0
            have q1 := (hb5.cell (p := ⟨w3.heap.size, 1, none⟩) (by show w3.heap.size < _; omega)).trans f1
            have hr5 : Below (w.heap.size + 2) w2 w5 := hr4.trans (hb5.mono (by have := hr4.size; omega))
            clear hw5 hb5 f0 f1 x0 hr4
            go_wp2
            go_loopw [9, 40] (fun o i wr' => i = .int .i64 0 ∧ o = .bool true ∧ wr' = w5) (fun _ _ _ => 0)
            case atStart => exact ⟨rfl, rfl, rfl⟩
            case round =>
                  obtain ⟨rfl, rfl, rfl⟩ := hrel
                  have u0 := q0
                  have u1 := q1
                  have v0 : wr.cell? ⟨w3.heap.size + 1, 0, none⟩ = some (.int .i64 (readT (wordsOf s) 0 0)) := (Lib.cell_of_heap hA 0).trans rfl
                  have v1 : wr.cell? ⟨w3.heap.size + 1, 1, none⟩ = some (.int .i64 (readT (wordsOf s) 0 1)) := (Lib.cell_of_heap hA 1).trans rfl
                  have hrw := hr5
                  obtain ⟨a0, Ha0⟩ : ∃ a0, Hid (a0 = readT (wordsOf s) 0 0) := ⟨_, Lib.hid rfl⟩
                  obtain ⟨a1, Ha1⟩ : ∃ a1, Hid (a1 = readT (wordsOf s) 0 1) := ⟨_, Lib.hid rfl⟩
                  rw [← Ha0.out] at v0
                  rw [← Ha1.out] at v1
                  have I0 : I64 a0 := by rw [Ha0.out]; exact readT_i64 _ _ _
                  have I1 : I64 a1 := by rw [Ha1.out]; exact readT_i64 _ _ _
                  have hEr : Env wr := hE2.below hrw (by have := hE.size; omega)
                  have hw5 : wd.size ≤ 1000 := by rw [Hwd.out]; exact Nat.le_trans (wordT_le k) (by decide)
                  have FW := Lib.hid (fwrite_any wd 0 a0 a1 hn2 I0 I1 hw5 wr hEr)
                  have HF3 : Hid (fitsT s k = (lineT wd 0 a0 a1 == s)) := by rw [Ha0.out, Ha1.out]; exact HF2
                  obtain ⟨L, HLn⟩ : ∃ L, Hid (L = lineT wd 0 a0 a1) := ⟨_, Lib.hid rfl⟩
                  rw [← HLn.out] at FW HF3
                  have hq : (L.toList == s.toList) = true ∨ (L.toList == s.toList) = false := by cases (L.toList == s.toList) <;> simp
                  rcases hq with hq | hq
                  · have Hyes : Hid (fitsT s k = true) := Lib.hid (by rw [HF3.out, beq_toListBytes]; exact hq)
                    go_upto_region 16 with (go_at_call 23; refine FW.out.mono ?_; rintro e1 w6 ⟨rfl, hb6⟩)
                    have hz6 := hb6.size
                    have hzw := hrw.size
                    have hr6 : Below (w.heap.size + 2) w2 w6 := hrw.trans (hb6.mono (by omega))
                    have hres := (hr6.block w.heap.size (by omega)).trans g0
                    have t0 := (Lib.cell_of_heap hres 0).trans (show _ = some (Value.int .i64 0) from rfl)
                    have t1 := (Lib.cell_of_heap hres 1).trans (show _ = some (Value.int .i64 0) from rfl)
                    have t2 := (Lib.cell_of_heap hres 2).trans (show _ = some (Value.int .i64 0) from rfl)
                    have fz := Lib.frozen_of_heap hres
                    have p0 := (hb6.cell (p := ⟨w3.heap.size + 1, 0, none⟩) (by show w3.heap.size + 1 < _; omega)).trans v0
                    have p1 := (hb6.cell (p := ⟨w3.heap.size + 1, 1, none⟩) (by show w3.heap.size + 1 < _; omega)).trans v1
                    have hkT : Hid (isT (k : Int) = true) := Lib.hid (by simp [isT]; omega)
                    have hB6 : Below w.heap.size w w6 := hb2.trans (hr6.mono (by omega))
                    clear v0 v1 u0 u1 hrw hr6
                    go_wp2
                    have e0 : w6.cell? ⟨w.heap.size, 0, none⟩ = some (.int .i64 0) := t0
                    refine bodyPost_ret (v := .tuple #[.agg #[.int .i64 k, .int .i64 a0, .int .i64 a1], .int .i64 0]) (by simp [results, Tryd.results13, go_sem, t0, t1, t2]) rfl ?_
                    refine ⟨((hB6.setCell (p := ⟨w.heap.size, 0, none⟩) (Nat.le_refl _) _).setCell (p := ⟨w.heap.size, 1, none⟩) (Nat.le_refl _) _).setCell (p := ⟨w.heap.size, 2, none⟩) (Nat.le_refl _) _, .inl ⟨k, hkT.out, Hyes.out, ?_⟩⟩
                    rw [Ha0.out, Ha1.out, Hn.out]
                  · have Hno2 : Hid (fitsT s k = false) := Lib.hid (by rw [HF3.out, beq_toListBytes]; exact hq)
                    go_wp2_with (go_at_call 23; refine FW.out.mono ?_; rintro e1 w6 ⟨rfl, hb6⟩)
                    go_roundw
                    case rel =>
                      repeat apply Exists.intro
                      exact ⟨⟨k + 1, by omega, by omega, by go_num, hrw.trans (hb6.mono (by have := hrw.size; omega)), HT.out Hno2.out⟩, rfl⟩
                    case measure => simp [intOf]; omega
          · have n1 : (1 : Int) < ((n + 1 : Nat) : Int) := by omega
            have n2 : ¬ (n + 1 = 1) := by omega
            have n3 : ¬ (n = 0) := by omega
            go_upto_region 7 with fail
            go_quiet (fail)
            go_upto_region 8 with fail
            generalize hw5 : World.alloc _ _ = w5
            have hb5 : Below w4.heap.size w4 w5 := by rw [← hw5]; exact (below_drewN (Below.refl _ _) nq).alloc (by simp) _
            have hA : w5.heap[w3.heap.size + 1]? = some (.cells #[.int .i64 (readT (wordsOf s) 0 0), .int .i64 (readT (wordsOf s) 0 1)] 54 (0, 0)) := by
              rw [← hw5, ← hs4]
              exact first_new2 (w4.drewN nq) _
            have hs5 : w5.heap.size = w3.heap.size + 2 := by rw [← hw5]; simp; omega
            have q0 := (hb5.cell (p := ⟨w3.heap.size, 0, none⟩) (by show w3.heap.size < _; omega)).trans f0
            have q1 := (hb5.cell (p := ⟨w3.heap.size, 1, none⟩) (by show w3.heap.size < _; omega)).trans f1
            have hr5 : Below (w.heap.size + 2) w2 w5 := hr4.trans (hb5.mono (by have := hr4.size; omega))
            clear hw5 hb5 f0 f1 x0 hr4
            go_wp2
            go_loopw [9, 40] (fun o i wr' => ∃ (j : Nat) (b : Bool), j ≤ n ∧ i = .int .i64 j ∧ o = .bool b ∧ ((∀ t, t < j → PlainA ((wordsOf s).getD (t + 1) ⟨#[]⟩)) → b = true) ∧ Below (w3.heap.size + 1) w5 wr' ∧ wr'.heap[w3.heap.size + 1]? = some (.cells #[.int .i64 (readT (wordsOf s) j 0), .int .i64 (readT (wordsOf s) j 1)] 54 (0, 0)))
              (fun _ i _ => n - (intOf i).toNat)
            case atStart => exact ⟨0, true, Nat.zero_le _, rfl, rfl, fun _ => rfl, Below.refl _ _, hA⟩
            case round =>
              obtain ⟨j, b, hj, rfl, rfl, hpl, hbr, hcA⟩ := hrel
              have HP := Lib.hid hpl
              have HC := Lib.hid hcA
              clear hpl hcA hA
              have hzr' := hbr.size
              by_cases hjn : j < n
              · have hd2 : decide ((j : Int) < (n : Int)) = true := by simp; omega
                have j0 : (0 : Int) ≤ (j : Int) := Int.natCast_nonneg _
                have j1 : (j : Int) < (n : Int) := by omega
                have j2 : (j : Int) < 2 := by omega
                obtain ⟨T, HTx⟩ : ∃ T, Hid (T = (wordsOf s).getD (j + 1) ⟨#[]⟩) := ⟨_, Lib.hid rfl⟩
                have hrw : Below (w.heap.size + 2) w2 wr := hr5.trans (hbr.mono (by omega))
                have y1 := (hrw.cell (p := ⟨w.heap.size + 1, j + 1, none⟩) (by show w.heap.size + 1 < _; omega)).trans (XC.out (j + 1) (by omega))
                rw [← HTx.out] at y1
                have y2 : wr.cell? ⟨w.heap.size + 1, 1 + j, none⟩ = some (.string T) := by rw [Nat.add_comm 1 j]; exact y1
                have hTs : T.size ≤ 281474976710656 := by
                  rw [HTx.out]
                  rcases Nat.lt_or_ge (j + 1) (wordsOf s).length with h | h
                  · have := wordsOf_size s ((wordsOf s).getD (j + 1) ⟨#[]⟩) (by simp [List.getD, List.getElem?_eq_getElem h])
                    omega
                  · simp [List.getD, List.getElem?_eq_none h]
                    show 0 ≤ _
                    omega
                have hEr : Env wr := hE2.below hrw (by have := hE.size; omega)
                go_upto_region 12 with fail
                go_upto_region 13 with (go_at_call 26; refine (atoi_call T _ hEr hTs).mono ?_; rintro e1 w6 ⟨err, rfl, _, hb6⟩; have hA6 := (hb6.block _ (Array.getElem?_eq_some_iff.1 HC.out).1).trans HC.out; have z1 := (Lib.cell_of_heap hA6 j).trans (rd_at (wordsOf s) j (by omega)); have z2 := Lib.frozen_of_heap hA6 j)
                have hA7 : (w6.setCell ⟨w3.heap.size + 1, j, none⟩ (.int .i64 (atoiV T.data.toList).1)).heap[w3.heap.size + 1]? = some (.cells #[.int .i64 (readT (wordsOf s) (j + 1) 0), .int .i64 (readT (wordsOf s) (j + 1) 1)] 54 (0, 0)) := by
                  rw [heap_set hA6, HTx.out, rd_set (wordsOf s) j (by omega)]
                have hb7 : Below (w3.heap.size + 1) w5 (w6.setCell ⟨w3.heap.size + 1, j, none⟩ (.int .i64 (atoiV T.data.toList).1)) := (hbr.trans (hb6.mono (by omega))).setCell (p := ⟨w3.heap.size + 1, j, none⟩) (Nat.le_refl _) _
                have hs7 : w5.heap.size ≤ (w6.setCell ⟨w3.heap.size + 1, j, none⟩ (.int .i64 (atoiV T.data.toList).1)).heap.size := hb7.size
                generalize w6.setCell ⟨w3.heap.size + 1, j, none⟩ (.int .i64 (atoiV T.data.toList).1) = w7 at hA7 hb7 hs7 ⊢
                have HA7 := Lib.hid hA7
                clear hA7 hA6 z1 z2 y1 y2
                cases b
                · go_wp2
                  go_roundw
                  case rel => exact ⟨j + 1, false, by omega, by go_num, rfl, fun h => HP.out (fun t ht => h t (by omega)), hb7, HA7.out⟩
                  case measure => simp [intOf]; omega
                · go_wp2_with (go_at_call 27; refine (plain_any T _).mono ?_; rintro e2 w8 ⟨⟨b', rfl, hpb⟩, hb8⟩)
                  go_roundw
                  case rel => exact ⟨j + 1, b', by omega, by go_num, rfl, fun h => hpb (by rw [HTx.out]; exact h j (by omega)), hb7.trans (hb8.mono (by omega)), (hb8.block _ (Array.getElem?_eq_some_iff.1 HA7.out).1).trans HA7.out⟩
                  case measure => simp [intOf]; omega
              · obtain rfl : j = n := by omega
                have u0 := (hbr.cell (p := ⟨w3.heap.size, 0, none⟩) (by show w3.heap.size < _; omega)).trans q0
                have u1 := (hbr.cell (p := ⟨w3.heap.size, 1, none⟩) (by show w3.heap.size < _; omega)).trans q1
                have v0 : wr.cell? ⟨w3.heap.size + 1, 0, none⟩ = some (.int .i64 (readT (wordsOf s) j 0)) := (Lib.cell_of_heap HC.out 0).trans rfl
                have v1 : wr.cell? ⟨w3.heap.size + 1, 1, none⟩ = some (.int .i64 (readT (wordsOf s) j 1)) := (Lib.cell_of_heap HC.out 1).trans rfl
                have hrw : Below (w.heap.size + 2) w2 wr := hr5.trans (hbr.mono (by omega))
                have hd2 : decide ((j : Int) < (j : Int)) = false := by simp
                cases b
                · have Hno2 : Hid (fitsT s k = false) := Lib.hid (by
                    cases hf : fitsT s k with
                    | false => rfl
                    | true => exact absurd (HP.out (fun t ht => fits_plain hf t (by rw [← Hn.out]; exact ht))) (by decide))
                  go_wp2
                  go_roundw
                  case rel => exact ⟨k + 1, by omega, by omega, by go_num, hrw, HT.out Hno2.out⟩
                  case measure => simp [intOf]; omega
                · obtain ⟨a0, Ha0⟩ : ∃ a0, Hid (a0 = readT (wordsOf s) j 0) := ⟨_, Lib.hid rfl⟩
                  obtain ⟨a1, Ha1⟩ : ∃ a1, Hid (a1 = readT (wordsOf s) j 1) := ⟨_, Lib.hid rfl⟩
                  rw [← Ha0.out] at v0
                  rw [← Ha1.out] at v1
                  have I0 : I64 a0 := by rw [Ha0.out]; exact readT_i64 _ _ _
                  have I1 : I64 a1 := by rw [Ha1.out]; exact readT_i64 _ _ _
                  have hEr : Env wr := hE2.below hrw (by have := hE.size; omega)
                  have hw5 : wd.size ≤ 1000 := by rw [Hwd.out]; exact Nat.le_trans (wordT_le k) (by decide)
                  have FW := Lib.hid (fwrite_any wd j a0 a1 hn2 I0 I1 hw5 wr hEr)
                  have HF3 : Hid (fitsT s k = (lineT wd j a0 a1 == s)) := by rw [Ha0.out, Ha1.out]; exact HF2
                  obtain ⟨L, HLn⟩ : ∃ L, Hid (L = lineT wd j a0 a1) := ⟨_, Lib.hid rfl⟩
                  rw [← HLn.out] at FW HF3
                  have hq : (L.toList == s.toList) = true ∨ (L.toList == s.toList) = false := by cases (L.toList == s.toList) <;> simp
                  rcases hq with hq | hq
                  · have Hyes : Hid (fitsT s k = true) := Lib.hid (by rw [HF3.out, beq_toListBytes]; exact hq)
                    go_upto_region 16 with (go_at_call 23; refine FW.out.mono ?_; rintro e1 w6 ⟨rfl, hb6⟩)
                    have hz6 := hb6.size
                    have hzw := hrw.size
                    have hr6 : Below (w.heap.size + 2) w2 w6 := hrw.trans (hb6.mono (by omega))
                    have hres := (hr6.block w.heap.size (by omega)).trans g0
                    have t0 := (Lib.cell_of_heap hres 0).trans (show _ = some (Value.int .i64 0) from rfl)
                    have t1 := (Lib.cell_of_heap hres 1).trans (show _ = some (Value.int .i64 0) from rfl)
                    have t2 := (Lib.cell_of_heap hres 2).trans (show _ = some (Value.int .i64 0) from rfl)
                    have fz := Lib.frozen_of_heap hres
                    have p0 := (hb6.cell (p := ⟨w3.heap.size + 1, 0, none⟩) (by show w3.heap.size + 1 < _; omega)).trans v0
                    have p1 := (hb6.cell (p := ⟨w3.heap.size + 1, 1, none⟩) (by show w3.heap.size + 1 < _; omega)).trans v1
                    have hkT : Hid (isT (k : Int) = true) := Lib.hid (by simp [isT]; omega)
                    have hB6 : Below w.heap.size w w6 := hb2.trans (hr6.mono (by omega))
                    clear v0 v1 u0 u1 hrw hr6
                    go_wp2
                    have e0 : w6.cell? ⟨w.heap.size, 0, none⟩ = some (.int .i64 0) := t0
                    refine bodyPost_ret (v := .tuple #[.agg #[.int .i64 k, .int .i64 a0, .int .i64 a1], .int .i64 0]) (by simp [results, Tryd.results13, go_sem, t0, t1, t2]) rfl ?_
                    refine ⟨((hB6.setCell (p := ⟨w.heap.size, 0, none⟩) (Nat.le_refl _) _).setCell (p := ⟨w.heap.size, 1, none⟩) (Nat.le_refl _) _).setCell (p := ⟨w.heap.size, 2, none⟩) (Nat.le_refl _) _, .inl ⟨k, hkT.out, Hyes.out, ?_⟩⟩
                    rw [Ha0.out, Ha1.out, Hn.out]
                  · have Hno2 : Hid (fitsT s k = false) := Lib.hid (by rw [HF3.out, beq_toListBytes]; exact hq)
                    go_wp2_with (go_at_call 23; refine FW.out.mono ?_; rintro e1 w6 ⟨rfl, hb6⟩)
                    go_roundw
                    case rel => exact ⟨k + 1, by omega, by omega, by go_num, hrw.trans (hb6.mono (by have := hrw.size; omega)), HT.out Hno2.out⟩
                    case measure => simp [intOf]; omega
      · have Hno2 : Hid (fitsT s k = false) := by
          have e : (wd == X) = false := by rw [beq_toListBytes]; exact hx
          exact Lib.hid (by rw [HF.out, e]; simp)
        go_quiet (fail)
        go_wp2
        go_roundw
        case rel => exact ⟨k + 1, by omega, by omega, by go_num, hr4.trans (below_drewN (Below.refl _ _) nq), HT.out Hno2.out⟩
        case measure => simp [intOf]; omega
    · obtain rfl : k = 8 := by omega
      have hres := (hr.block w.heap.size (by omega)).trans g0
      have t0 := (Lib.cell_of_heap hres 0).trans (show _ = some (Value.int .i64 0) from rfl)
      have t1 := (Lib.cell_of_heap hres 1).trans (show _ = some (Value.int .i64 0) from rfl)
      have t2 := (Lib.cell_of_heap hres 2).trans (show _ = some (Value.int .i64 0) from rfl)
      have fz := Lib.frozen_of_heap hres
      have hB6 : Below w.heap.size w wr := hb2.trans (hr.mono (by omega))
      go_wp2
      refine bodyPost_ret (v := .tuple #[.agg #[.int .i64 0, .int .i64 0, .int .i64 0], .int .i64 5]) (by simp [results, Tryd.results13, go_sem, t0, t1, t2]) rfl ?_
      refine ⟨((hB6.setCell (p := ⟨w.heap.size, 0, none⟩) (Nat.le_refl _) _).setCell (p := ⟨w.heap.size, 1, none⟩) (Nat.le_refl _) _).setCell (p := ⟨w.heap.size, 2, none⟩) (Nat.le_refl _) _, .inr ⟨fun q hq => ?_, rfl⟩⟩
      have hq1 : 1 ≤ q ∧ q ≤ 7 := by simpa [isT] using hq
      have := Hno.out q.toNat (by omega) (by omega)
      rw [show ((q.toNat : Nat) : Int) = q by omega] at this
      exact this
end Go.Proofs.YtmadabecpgjpjaaDoor
