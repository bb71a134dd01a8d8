/- The law TaleReads: its walk. -/
import Derived.Test.YtmadabecpgjpjaaDoorReadsP
import Derived.Test.YtmadabecpgjpjaaDoorAwakeT
namespace Go.Proofs.YtmadabecpgjpjaaDoor
open Go Go.RowKit Go.Shelf

/-- Where the law stands: the lines ahead are steps; the rest is what stands from f on. -/
structure AtT (s : ByteArray) (pre : List (List UInt8)) (f : Nat) : Prop where
  ok : okL pre
  lines : linesL s.data.toList = pre ++ linesL (s.data.toList.drop f)
  le : f ≤ s.size + 1
/-- The line at f. -/
theorem AtT.line {s : ByteArray} {pre : List (List UInt8)} {f : Nat} (h : AtT s pre f) (hf : f < s.size) :
    ∃ x, linesL s.data.toList = pre ++ x :: linesL (s.data.toList.drop (f + endN (s.data.toList.drop f) + 1)) ∧ trimL x = s.extract f (f + endN (s.data.toList.drop f)) := by
  have hl : s.data.toList.length = s.size := Array.length_toList
  have hne : s.data.toList.drop f ≠ [] := fun e => by
    have := congrArg List.length e
    rw [List.length_drop, List.length_nil] at this
    omega
  have h1 := h.lines
  rw [linesL_cons hne, (cutN_end _).2, List.drop_drop, show f + (endN (s.data.toList.drop f) + 1) = f + endN (s.data.toList.drop f) + 1 by omega] at h1
  refine ⟨_, h1, ?_⟩
  rw [trimL_cut]
  apply ByteArray.ext
  rw [ByteArray.data_extract]
  apply Array.ext'
  rw [Array.toList_extract]
  simp only [List.extract]
  rw [show f + endN (s.data.toList.drop f) - f = endN (s.data.toList.drop f) by omega]
theorem AtT.next {s : ByteArray} {pre : List (List UInt8)} {f : Nat} {x : List UInt8} (h : AtT s pre f) (hf : f < s.size) (hx : linesL s.data.toList = pre ++ x :: linesL (s.data.toList.drop (f + endN (s.data.toList.drop f) + 1)))
    (hs : stepT (trimL x) ≠ none) : AtT s (pre ++ [x]) (f + endN (s.data.toList.drop f) + 1) := by
  refine ⟨?_, by rw [hx]; simp, ?_⟩
  · intro l hl
    rw [List.mem_append] at hl
    rcases hl with hl | hl
    · exact h.ok l hl
    · rw [List.mem_singleton] at hl; rw [hl]; exact hs
  · have h1 := endN_le (s.data.toList.drop f)
    have hl : s.data.toList.length = s.size := Array.length_toList
    rw [List.length_drop] at h1
    omega
/-- The first line that is none stands where it stands. -/
theorem first_bad {pre pr : List (List UInt8)} {x y : List UInt8} {r1 r2 : List (List UInt8)} (h : pre ++ x :: r1 = pr ++ y :: r2) (h1 : okL pre) (h2 : okL pr) (hx : stepT (trimL x) = none) (hy : stepT (trimL y) = none) : pre.length = pr.length := by
  rcases Nat.lt_trichotomy pre.length pr.length with hlt | heq | hgt
  · exfalso
    have e := congrArg (fun l => l[pre.length]?) h
    simp only [List.getElem?_append_right (Nat.le_refl _), Nat.sub_self, List.getElem?_cons_zero] at e
    rw [List.getElem?_append_left hlt] at e
    exact h2 x (List.mem_of_getElem? e.symm) hx
  · exact heq
  · exfalso
    have e := congrArg (fun l => l[pr.length]?) h
    simp only [List.getElem?_append_right (Nat.le_refl _), Nat.sub_self, List.getElem?_cons_zero] at e
    rw [List.getElem?_append_left hgt] at e
    exact h1 y (List.mem_of_getElem? e) hy

theorem byte_ne {s : ByteArray} {f e : Nat} (h1 : f ≤ e) (h2 : e < f + endN (s.data.toList.drop f)) (he : e < s.size) : ((s[e].toNat : Int) != 10) = true := by
  have hl : s.data.toList.length = s.size := Array.length_toList
  have h := endN_below (s.data.toList.drop f) (e - f) (by rw [List.length_drop]; omega) (by omega)
  rw [List.getElem_drop] at h
  have e1 : s.data.toList[f + (e - f)]'(by omega) = s[e] := by
    simp only [show f + (e - f) = e by omega]
    rfl
  rw [e1] at h
  rw [bne_iff_ne]
  intro hc
  apply h
  apply UInt8.toNat_inj.1
  have : (10 : UInt8).toNat = 10 := rfl
  omega
theorem byte_eq {s : ByteArray} {f e : Nat} (h2 : e = f + endN (s.data.toList.drop f)) (he : e < s.size) : ((s[e].toNat : Int) != 10) = false := by
  have hl : s.data.toList.length = s.size := Array.length_toList
  have h := endN_at (s.data.toList.drop f) (by rw [List.length_drop]; omega)
  rw [List.getElem_drop] at h
  have e1 : s.data.toList[f + endN (s.data.toList.drop f)]'(by omega) = s[e] := by
    simp only [← h2]
    rfl
  rw [e1] at h
  rw [h]
  rfl

set_option maxRecDepth 100000 in
set_option maxHeartbeats 4000000 in
theorem reads_bad (s : ByteArray) (w : World) (hE : Env w) (hs : s.size ≤ 131072) (pr : List (List UInt8)) (x : List UInt8) (rest : List (List UInt8)) (hl : linesL s.data.toList = pr ++ x :: rest) (hok : okL pr) (hx : stepT (trimL x) = none)
    (hR : Calls Tryd.prog 14 #[.string s] w fun e w' => e = .returned (.tuple #[.slice none 0 0, .int .i64 (pr.length + 1 : Nat), .int .i64 5]) ∧ Below w.heap.size w w') :
    Calls Tryd.prog 5 #[.string s] w fun e w' => e = .returned (.bool true) ∧ Below w.heap.size w w' := by
  have hz8 := hE.size
  have HR := Lib.hid hR
  clear hR
  have HL := Lib.hid hl
  have HX := Lib.hid hx
  clear hl hx
  obtain ⟨N, hN⟩ : ∃ N, N = pr.length := ⟨_, rfl⟩
  have HN := Lib.hid hN
  clear hN
  rw [← HN.out] at HR
  have hd : decide ((131072 : Int) < (s.size : Int)) = false := by simp; omega
  go_enter Tryd.func5, Tryd.ntmps5
  go_wp2_with (go_at_call 14; refine HR.out.mono ?_; rintro e1 w1 ⟨rfl, hb1⟩)
  go_loopw [6, 7] (fun t6 t7 wr => ∃ (pre : List (List UInt8)) (f : Nat), AtT s pre f ∧ t6 = .int .i64 pre.length ∧ t7 = .int .i64 f ∧ Below w.heap.size w wr)
    (fun _ t7 _ => s.size + 1 - (intOf t7).toNat)
  case atStart => exact ⟨[], 0, ⟨(fun l hl => by cases hl), by simp, by omega⟩, rfl, rfl, hb1⟩
  case round =>
    obtain ⟨pre, f, hA, rfl, rfl, hbr⟩ := hrel
    have hER := hE.below hbr hz8
    obtain ⟨M, hM⟩ : ∃ M, M = pre.length := ⟨_, rfl⟩
    have HM := Lib.hid hM
    rw [← HM.out]
    clear hM
    by_cases hf : f < s.size
    · obtain ⟨y, hy, hty⟩ := hA.line hf
      have hnext := fun h => hA.next hf hy h
      have hen := endN_le (s.data.toList.drop f)
      rw [List.length_drop, Array.length_toList] at hen
      have hsd : s.data.size = s.size := rfl
      have hlen := congrArg List.length hy
      have hle := linesL_len _ s.data.toList (Nat.le_refl _)
      have hsl : s.data.toList.length = s.size := Array.length_toList
      simp only [List.length_append, List.length_cons] at hlen
      have hM1 : M < 131072 := by rw [HM.out]; omega
      obtain ⟨E, hEe⟩ : ∃ E, E = f + endN (s.data.toList.drop f) := ⟨_, rfl⟩
      have HE := Lib.hid hEe
      have hE1 : E ≤ s.size := by omega
      have hE2 : f ≤ E := by omega
      have HY := Lib.hid hy
      have HT := Lib.hid hty
      have HNX := Lib.hid hnext
      have hxs : (s.extract f E).size ≤ 1048576 := by rw [ByteArray.size_extract]; omega
      clear hEe hy hty hnext hlen hle hsl hsd hen
      rw [← HE.out] at HY HT HNX
      have hd1 : decide ((f : Int) < (s.size : Int)) = true := by simp; omega
      go_wp2
      obtain ⟨wo, rfl⟩ : ∃ wo : World, wo = wr := ⟨_, rfl⟩
      go_loop [8] (fun t8 => ∃ e : Nat, f ≤ e ∧ e ≤ E ∧ t8 = .int .i64 e) (fun t8 => E - (intOf t8).toNat)
      case atStart => exact ⟨f, Nat.le_refl _, hE2, rfl⟩
      case round =>
        obtain ⟨e, h1, h2, rfl⟩ := hrel
        by_cases hlt : e < E
        · have he : e < s.size := by omega
          have hq := byte_ne h1 (by rw [← HE.out]; exact hlt) he
          have hd2 : decide ((e : Int) < (s.size : Int)) = true := by simp; omega
          go_wp2
          go_round
          case rel => exact ⟨e + 1, by omega, by omega, by go_num⟩
          case measure => simp [intOf]; omega
        · obtain rfl : e = E := by omega
          rcases hst : stepT (trimL y) with _ | ⟨k, a, b⟩
          · have hM2 : M = N := by rw [HM.out, HN.out]; exact first_bad (by rw [← HY.out, HL.out]) hA.ok hok hst HX.out
            rw [HT.out] at hst
            have HS := Lib.hid hst
            clear hst
            subst hM2
            by_cases hend : e < s.size
            · have hq := byte_eq HE.out hend
              have hd2 : decide ((e : Int) < (s.size : Int)) = true := by simp; omega
              go_wp2_with (first
                | (go_at_call 13; refine (step_no (s.extract f e) _ hER hxs HS.out).mono ?_; rintro e3 w3 ⟨rfl, hb3⟩; have hE3 := hER.below (hb3.alloc hb3.size (.cells #[.int .i64 0, .int .i64 0, .int .i64 0] 23)) hER.size)
                | (go_at_call 12; refine (awake26 _ hE3).mono ?_; rintro e4 w4 ⟨rfl, hb4⟩))
              go_ret
              exact ⟨rfl, (hbr.trans ((hb3.alloc hb3.size _).mono hbr.size)).trans (hb4.mono (Nat.le_trans hbr.size (hb3.alloc hb3.size _).size))⟩
            · have hd2 : decide ((e : Int) < (s.size : Int)) = false := by simp; omega
              go_wp2_with (first
                | (go_at_call 13; refine (step_no (s.extract f e) _ hER hxs HS.out).mono ?_; rintro e3 w3 ⟨rfl, hb3⟩; have hE3 := hER.below (hb3.alloc hb3.size (.cells #[.int .i64 0, .int .i64 0, .int .i64 0] 23)) hER.size)
                | (go_at_call 12; refine (awake26 _ hE3).mono ?_; rintro e4 w4 ⟨rfl, hb4⟩))
              go_ret
              exact ⟨rfl, (hbr.trans ((hb3.alloc hb3.size _).mono hbr.size)).trans (hb4.mono (Nat.le_trans hbr.size (hb3.alloc hb3.size _).size))⟩
          · have hAn := HNX.out (fun h => by rw [hst] at h; cases h)

            rw [HT.out] at hst
            have HS := Lib.hid hst
            clear hst
            by_cases hend : e < s.size
            · have hq := byte_eq HE.out hend
              have hd2 : decide ((e : Int) < (s.size : Int)) = true := by simp; omega
              go_wp2_with (go_at_call 13; refine (step_yes (s.extract f e) _ hER hxs k a b HS.out).mono ?_; rintro e3 w3 ⟨rfl, hb3⟩)
              go_quiet (fail)
              go_wp2
              go_roundw
              case rel => exact ⟨pre ++ [y], e + 1, hAn, (by rw [List.length_append, ← HM.out]; rfl), rfl, hbr.trans ((below_drewN (hb3.alloc hb3.size _) _).mono hbr.size)⟩
              case measure => simp [intOf]; omega
            · have hd2 : decide ((e : Int) < (s.size : Int)) = false := by simp; omega
              go_wp2_with (go_at_call 13; refine (step_yes (s.extract f e) _ hER hxs k a b HS.out).mono ?_; rintro e3 w3 ⟨rfl, hb3⟩)
              go_quiet (fail)
              go_wp2
              go_roundw
              case rel => exact ⟨pre ++ [y], e + 1, hAn, (by rw [List.length_append, ← HM.out]; rfl), rfl, hbr.trans ((below_drewN (hb3.alloc hb3.size _) _).mono hbr.size)⟩
              case measure => simp [intOf]; omega
    · have hd1 : decide ((f : Int) < (s.size : Int)) = false := by simp; omega
      have hlines := hA.lines
      rw [List.drop_eq_nil_of_le (by rw [Array.length_toList]; show s.size ≤ f; omega), linesL_nil, List.append_nil] at hlines
      exfalso
      rw [HL.out] at hlines
      exact hA.ok x (by rw [← hlines]; simp) HX.out

set_option maxRecDepth 100000 in
set_option maxHeartbeats 4000000 in
theorem reads_full (s : ByteArray) (w : World) (hE : Env w) (hs : s.size ≤ 131072) (hok : okL (linesL s.data.toList)) (hmany : 4096 < (linesL s.data.toList).length)
    (hR : Calls Tryd.prog 14 #[.string s] w fun e w' => e = .returned (.tuple #[.slice none 0 0, .int .i64 0, .int .i64 6]) ∧ Below w.heap.size w w') :
    Calls Tryd.prog 5 #[.string s] w fun e w' => e = .returned (.bool true) ∧ Below w.heap.size w w' := by
  have hz8 := hE.size
  have HR := Lib.hid hR
  clear hR
  have HMY := Lib.hid hmany
  clear hmany
  have hd : decide ((131072 : Int) < (s.size : Int)) = false := by simp; omega
  go_enter Tryd.func5, Tryd.ntmps5
  go_wp2_with (go_at_call 14; refine HR.out.mono ?_; rintro e1 w1 ⟨rfl, hb1⟩)
  go_loopw [6, 7] (fun t6 t7 wr => ∃ (pre : List (List UInt8)) (f : Nat), AtT s pre f ∧ t6 = .int .i64 pre.length ∧ t7 = .int .i64 f ∧ Below w.heap.size w wr)
    (fun _ t7 _ => s.size + 1 - (intOf t7).toNat)
  case atStart => exact ⟨[], 0, ⟨(fun l hl => by cases hl), by simp, by omega⟩, rfl, rfl, hb1⟩
  case round =>
    obtain ⟨pre, f, hA, rfl, rfl, hbr⟩ := hrel
    have hER := hE.below hbr hz8
    obtain ⟨M, hM⟩ : ∃ M, M = pre.length := ⟨_, rfl⟩
    have HM := Lib.hid hM
    rw [← HM.out]
    clear hM
    by_cases hf : f < s.size
    · obtain ⟨y, hy, hty⟩ := hA.line hf
      have hnext := fun h => hA.next hf hy h
      have hen := endN_le (s.data.toList.drop f)
      rw [List.length_drop, Array.length_toList] at hen
      have hsd : s.data.size = s.size := rfl
      have hlen := congrArg List.length hy
      have hle := linesL_len _ s.data.toList (Nat.le_refl _)
      have hsl : s.data.toList.length = s.size := Array.length_toList
      simp only [List.length_append, List.length_cons] at hlen
      have hM1 : M < 131072 := by rw [HM.out]; omega
      obtain ⟨E, hEe⟩ : ∃ E, E = f + endN (s.data.toList.drop f) := ⟨_, rfl⟩
      have HE := Lib.hid hEe
      have hE1 : E ≤ s.size := by omega
      have hE2 : f ≤ E := by omega
      have HY := Lib.hid hy
      have HT := Lib.hid hty
      have HNX := Lib.hid hnext
      have hxs : (s.extract f E).size ≤ 1048576 := by rw [ByteArray.size_extract]; omega
      clear hEe hy hty hnext hlen hle hsl hsd hen
      rw [← HE.out] at HY HT HNX
      have hd1 : decide ((f : Int) < (s.size : Int)) = true := by simp; omega
      go_wp2
      obtain ⟨wo, rfl⟩ : ∃ wo : World, wo = wr := ⟨_, rfl⟩
      go_loop [8] (fun t8 => ∃ e : Nat, f ≤ e ∧ e ≤ E ∧ t8 = .int .i64 e) (fun t8 => E - (intOf t8).toNat)
      case atStart => exact ⟨f, Nat.le_refl _, hE2, rfl⟩
      case round =>
        obtain ⟨e, h1, h2, rfl⟩ := hrel
        by_cases hlt : e < E
        · have he : e < s.size := by omega
          have hq := byte_ne h1 (by rw [← HE.out]; exact hlt) he
          have hd2 : decide ((e : Int) < (s.size : Int)) = true := by simp; omega
          go_wp2
          go_round
          case rel => exact ⟨e + 1, by omega, by omega, by go_num⟩
          case measure => simp [intOf]; omega
        · obtain rfl : e = E := by omega
          rcases hst : stepT (trimL y) with _ | ⟨k, a, b⟩
          · exact absurd hst (hok y (by rw [HY.out]; simp))
          · have hAn := HNX.out (fun h => by rw [hst] at h; cases h)

            rw [HT.out] at hst
            have HS := Lib.hid hst
            clear hst
            by_cases hend : e < s.size
            · have hq := byte_eq HE.out hend
              have hd2 : decide ((e : Int) < (s.size : Int)) = true := by simp; omega
              go_wp2_with (go_at_call 13; refine (step_yes (s.extract f e) _ hER hxs k a b HS.out).mono ?_; rintro e3 w3 ⟨rfl, hb3⟩)
              go_quiet (fail)
              go_wp2
              go_roundw
              case rel => exact ⟨pre ++ [y], e + 1, hAn, (by rw [List.length_append, ← HM.out]; rfl), rfl, hbr.trans ((below_drewN (hb3.alloc hb3.size _) _).mono hbr.size)⟩
              case measure => simp [intOf]; omega
            · have hd2 : decide ((e : Int) < (s.size : Int)) = false := by simp; omega
              go_wp2_with (go_at_call 13; refine (step_yes (s.extract f e) _ hER hxs k a b HS.out).mono ?_; rintro e3 w3 ⟨rfl, hb3⟩)
              go_quiet (fail)
              go_wp2
              go_roundw
              case rel => exact ⟨pre ++ [y], e + 1, hAn, (by rw [List.length_append, ← HM.out]; rfl), rfl, hbr.trans ((below_drewN (hb3.alloc hb3.size _) _).mono hbr.size)⟩
              case measure => simp [intOf]; omega
    · have hd1 : decide ((f : Int) < (s.size : Int)) = false := by simp; omega
      have hlines := hA.lines
      rw [List.drop_eq_nil_of_le (by rw [Array.length_toList]; show s.size ≤ f; omega), linesL_nil, List.append_nil] at hlines
      have hM4 : 4096 < M := by rw [HM.out, ← hlines]; exact HMY.out
      clear hlines
      have hd3 : decide ((4096 : Int) < (M : Int)) = true := by simp; omega
      go_wp2_with (go_at_call 12; refine (awake26 _ hER).mono ?_; rintro e4 w4 ⟨rfl, hb4⟩)
      go_ret
      exact ⟨rfl, hbr.trans (hb4.mono hbr.size)⟩

theorem own_slice {W : World} {B : Nat} {e : TypeId} {size : Nat} {v : Value} {L : Nat} {xs : List Value} (h : W.ownsRow B e size v L xs) : ∃ ao cap, v = .slice ao L cap := by
  rcases h.2 with ⟨rfl, h0⟩ | ⟨g, cap, _, rfl, _⟩
  · exact ⟨_, _, by rw [h0]⟩
  · exact ⟨_, _, rfl⟩
theorem own_some {W : World} {B : Nat} {e : TypeId} {size : Nat} {v : Value} {L : Nat} {xs : List Value} (h : W.ownsRow B e size v L xs) (h0 : 0 < L) : ∃ g cap, v = .slice (some ⟨g, 0, none⟩) L cap := by
  rcases h.2 with ⟨rfl, h1⟩ | ⟨g, cap, _, rfl, _⟩
  · omega
  · exact ⟨_, _, rfl⟩
theorem own_cell {W : World} {B : Nat} {e : TypeId} {size : Nat} {g L cap : Nat} {xs : List Value} (h : W.ownsRow B e size (.slice (some ⟨g, 0, none⟩) L cap) L xs) (i : Nat) (hi : i < xs.length) : W.cell? ⟨g, i, none⟩ = xs[i]? := by
  rcases h.2 with ⟨h1, _⟩ | ⟨g', cap', cur, h1, _, hgb, _, _, hsz, hxs⟩
  · cases h1
  · cases h1
    rw [Lib.cell_of_heap hgb i, ← hxs, List.getElem?_take]
    have hl := h.1
    rw [if_pos (by omega)]
    simp
theorem gotL_app (a b : List (List UInt8)) : gotL (a ++ b) = gotL a ++ gotL b := by unfold gotL; rw [List.filterMap_append]
theorem cellsS_len : ∀ l : List (Int × Int × Int), (l.flatMap cellsS).length = 3 * l.length
  | [] => rfl
  | t :: l => by rw [List.flatMap_cons, List.length_append, cellsS_len l]; simp [cellsS]; omega
theorem got_at {ls pre rest : List (List UInt8)} {y : List UInt8} {t : Int × Int × Int} (h : ls = pre ++ y :: rest) (hok : okL pre) (hy : stepT (trimL y) = some t) :
    ∃ a b : List Value, (gotL ls).flatMap cellsS = a ++ (cellsS t ++ b) ∧ a.length = pre.length * 3 := by
  have e : gotL (y :: rest) = t :: gotL rest := by unfold gotL; simp only [List.filterMap_cons, hy]
  refine ⟨(gotL pre).flatMap cellsS, (gotL rest).flatMap cellsS, ?_, ?_⟩
  · rw [h, gotL_app, e, List.flatMap_append, List.flatMap_cons]
  · rw [cellsS_len, gotL_ok _ hok, Nat.mul_comm]
theorem own_three {W : World} {B : Nat} {e : TypeId} {g L cap M : Nat} {xs : List Value} {k a b : Int} (h : W.ownsRow B e 3 (.slice (some ⟨g, 0, none⟩) L cap) L xs) (hx : ∃ p q : List Value, xs = p ++ (cellsS (k, a, b) ++ q) ∧ p.length = M * 3) :
    W.cell? ⟨g, M * 3, none⟩ = some (.int .i64 k) ∧ W.cell? ⟨g, M * 3 + 1, none⟩ = some (.int .i64 a) ∧ W.cell? ⟨g, M * 3 + 2, none⟩ = some (.int .i64 b) := by
  obtain ⟨p, q, rfl, hp⟩ := hx
  have hl : (p ++ (cellsS (k, a, b) ++ q)).length = M * 3 + (3 + q.length) := by simp [cellsS, hp]; omega
  refine ⟨(own_cell h _ (by omega)).trans ?_, (own_cell h _ (by omega)).trans ?_, (own_cell h _ (by omega)).trans ?_⟩
  all_goals
    rw [List.getElem?_append_right (by omega)]
    simp [hp, cellsS]

set_option maxRecDepth 100000 in
set_option maxHeartbeats 4000000 in
theorem reads_good (s : ByteArray) (w : World) (hE : Env w) (hs : s.size ≤ 131072) (hok : okL (linesL s.data.toList)) (hfew : (linesL s.data.toList).length ≤ 4096)
    (hR : Calls Tryd.prog 14 #[.string s] w fun e w' => ∃ v, e = .returned (.tuple #[v, .int .i64 0, .int .i64 0]) ∧ w'.ownsRow w.heap.size 23 3 v (gotL (linesL s.data.toList)).length ((gotL (linesL s.data.toList)).flatMap cellsS) ∧ Below w.heap.size w w') :
    Calls Tryd.prog 5 #[.string s] w fun e w' => e = .returned (.bool true) ∧ Below w.heap.size w w' := by
  have hz8 := hE.size
  have HR := Lib.hid hR
  clear hR
  obtain ⟨L, hL⟩ : ∃ L, L = (gotL (linesL s.data.toList)).length := ⟨_, rfl⟩
  have hL2 : L = (linesL s.data.toList).length := by rw [hL]; exact gotL_ok _ hok
  have hL3 : L ≤ 4096 := by rw [hL2]; exact hfew
  have HL2 := Lib.hid hL2
  rw [← hL] at HR
  clear hL hfew hL2
  have hd : decide ((131072 : Int) < (s.size : Int)) = false := by simp; omega
  go_enter Tryd.func5, Tryd.ntmps5
  go_wp2_with (go_at_call 14; refine HR.out.mono ?_; rintro e1 w1 ⟨v, rfl, hown, hb1⟩)
  go_loopw [6, 7] (fun t6 t7 wr => ∃ (pre : List (List UInt8)) (f : Nat), AtT s pre f ∧ t6 = .int .i64 pre.length ∧ t7 = .int .i64 f ∧ Below w.heap.size w wr ∧ wr.ownsRow w.heap.size 23 3 v L ((gotL (linesL s.data.toList)).flatMap cellsS))
    (fun _ t7 _ => s.size + 1 - (intOf t7).toNat)
  case atStart => exact ⟨[], 0, ⟨(fun l hl => by cases hl), by simp, by omega⟩, rfl, rfl, hb1, hown⟩
  case round =>
    obtain ⟨pre, f, hA, rfl, rfl, hbr, hown⟩ := hrel
    have hER := hE.below hbr hz8
    obtain ⟨M, hM⟩ : ∃ M, M = pre.length := ⟨_, rfl⟩
    have HM := Lib.hid hM
    rw [← HM.out]
    clear hM
    by_cases hf : f < s.size
    · obtain ⟨y, hy, hty⟩ := hA.line hf
      have hnext := fun h => hA.next hf hy h
      have hen := endN_le (s.data.toList.drop f)
      rw [List.length_drop, Array.length_toList] at hen
      have hsd : s.data.size = s.size := rfl
      have hlen := congrArg List.length hy
      have hle := linesL_len _ s.data.toList (Nat.le_refl _)
      have hsl : s.data.toList.length = s.size := Array.length_toList
      simp only [List.length_append, List.length_cons] at hlen
      have hM1 : M < 131072 := by rw [HM.out]; omega
      obtain ⟨E, hEe⟩ : ∃ E, E = f + endN (s.data.toList.drop f) := ⟨_, rfl⟩
      have HE := Lib.hid hEe
      have hE1 : E ≤ s.size := by omega
      have hE2 : f ≤ E := by omega
      have HY := Lib.hid hy
      have HT := Lib.hid hty
      have HNX := Lib.hid hnext
      have hxs : (s.extract f E).size ≤ 1048576 := by rw [ByteArray.size_extract]; omega
      clear hEe hy hty hnext hlen hle hsl hsd hen
      rw [← HE.out] at HY HT HNX
      have hd1 : decide ((f : Int) < (s.size : Int)) = true := by simp; omega
      go_wp2
      obtain ⟨wo, rfl⟩ : ∃ wo : World, wo = wr := ⟨_, rfl⟩
      go_loop [8] (fun t8 => ∃ e : Nat, f ≤ e ∧ e ≤ E ∧ t8 = .int .i64 e) (fun t8 => E - (intOf t8).toNat)
      case atStart => exact ⟨f, Nat.le_refl _, hE2, rfl⟩
      case round =>
        obtain ⟨e, h1, h2, rfl⟩ := hrel
        by_cases hlt : e < E
        · have he : e < s.size := by omega
          have hq := byte_ne h1 (by rw [← HE.out]; exact hlt) he
          have hd2 : decide ((e : Int) < (s.size : Int)) = true := by simp; omega
          go_wp2
          go_round
          case rel => exact ⟨e + 1, by omega, by omega, by go_num⟩
          case measure => simp [intOf]; omega
        · obtain rfl : e = E := by omega
          rcases hst : stepT (trimL y) with _ | ⟨k, a, b⟩
          · exact absurd hst (hok y (by rw [HY.out]; simp))
          · have hAn := HNX.out (fun h => by rw [hst] at h; cases h)
            have HOK := Lib.hid (got_at (pre := pre) HY.out hA.ok hst)
            rw [← HM.out] at HOK
            have hML : M + 1 ≤ L := by rw [HL2.out, HM.out, HY.out, List.length_append, List.length_cons]; omega
            rw [HT.out] at hst
            have HS := Lib.hid hst
            clear hst
            by_cases hend : e < s.size
            · have hq := byte_eq HE.out hend
              have hd2 : decide ((e : Int) < (s.size : Int)) = true := by simp; omega
              go_wp2_with (go_at_call 13; refine (step_yes (s.extract f e) _ hER hxs k a b HS.out).mono ?_; rintro e3 w3 ⟨rfl, hb3⟩)
              generalize hw4 : World.alloc _ _ = w4
              have hb4 : Below wo.heap.size wo w4 := by rw [← hw4]; exact hb3.alloc hb3.size _
              have hg4 : w4.heap[w3.heap.size]? = some (.cells #[.int .i64 k, .int .i64 a, .int .i64 b] 23 (0, 0)) := by rw [← hw4]; exact World.alloc_heap_new w3 _
              clear hw4
              have ho4 := ownsRow_later hown hb4
              obtain ⟨g, c4, rfl⟩ : ∃ g c4, v = .slice (some ⟨g, 0, none⟩) L c4 := own_some ho4 (by omega)
              obtain ⟨q0, q1, q2⟩ := own_three ho4 HOK.out
              have c0 := (Lib.cell_of_heap hg4 0).trans (show _ = some (Value.int .i64 k) from rfl)
              have c1 := (Lib.cell_of_heap hg4 1).trans (show _ = some (Value.int .i64 a) from rfl)
              have c2 := (Lib.cell_of_heap hg4 2).trans (show _ = some (Value.int .i64 b) from rfl)
              have hd5 : decide ((L : Int) < (M : Int) + 1) = false := by simp; omega
              have i1 : (M : Int) < (L : Int) := by omega
              have i2 : (0 : Int) ≤ (M : Int) := by omega
              have hM8 : IntKind.i64.wrap (M : Int) = (M : Int) := IntWalk.i64_in _ (by omega)
              have hM9 : IntKind.i64.wrap ((M : Int) + 1 - 1) = (M : Int) := by rw [show (M : Int) + 1 - 1 = (M : Int) by omega]; exact IntWalk.i64_in _ (by omega)
              go_quiet (fail)
              go_wp2
              go_roundw
              case rel => exact ⟨pre ++ [y], e + 1, hAn, (by rw [List.length_append, ← HM.out]; rfl), rfl, hbr.trans ((below_drewN hb4 _).mono hbr.size), ho4⟩
              case measure => simp [intOf]; omega
            · have hd2 : decide ((e : Int) < (s.size : Int)) = false := by simp; omega
              go_wp2_with (go_at_call 13; refine (step_yes (s.extract f e) _ hER hxs k a b HS.out).mono ?_; rintro e3 w3 ⟨rfl, hb3⟩)
              generalize hw4 : World.alloc _ _ = w4
              have hb4 : Below wo.heap.size wo w4 := by rw [← hw4]; exact hb3.alloc hb3.size _
              have hg4 : w4.heap[w3.heap.size]? = some (.cells #[.int .i64 k, .int .i64 a, .int .i64 b] 23 (0, 0)) := by rw [← hw4]; exact World.alloc_heap_new w3 _
              clear hw4
              have ho4 := ownsRow_later hown hb4
              obtain ⟨g, c4, rfl⟩ : ∃ g c4, v = .slice (some ⟨g, 0, none⟩) L c4 := own_some ho4 (by omega)
              obtain ⟨q0, q1, q2⟩ := own_three ho4 HOK.out
              have c0 := (Lib.cell_of_heap hg4 0).trans (show _ = some (Value.int .i64 k) from rfl)
              have c1 := (Lib.cell_of_heap hg4 1).trans (show _ = some (Value.int .i64 a) from rfl)
              have c2 := (Lib.cell_of_heap hg4 2).trans (show _ = some (Value.int .i64 b) from rfl)
              have hd5 : decide ((L : Int) < (M : Int) + 1) = false := by simp; omega
              have i1 : (M : Int) < (L : Int) := by omega
              have i2 : (0 : Int) ≤ (M : Int) := by omega
              have hM8 : IntKind.i64.wrap (M : Int) = (M : Int) := IntWalk.i64_in _ (by omega)
              have hM9 : IntKind.i64.wrap ((M : Int) + 1 - 1) = (M : Int) := by rw [show (M : Int) + 1 - 1 = (M : Int) by omega]; exact IntWalk.i64_in _ (by omega)
              go_quiet (fail)
              go_wp2
              go_roundw
              case rel => exact ⟨pre ++ [y], e + 1, hAn, (by rw [List.length_append, ← HM.out]; rfl), rfl, hbr.trans ((below_drewN hb4 _).mono hbr.size), ho4⟩
              case measure => simp [intOf]; omega
    · have hd1 : decide ((f : Int) < (s.size : Int)) = false := by simp; omega
      have hlines := hA.lines
      rw [List.drop_eq_nil_of_le (by rw [Array.length_toList]; show s.size ≤ f; omega), linesL_nil, List.append_nil] at hlines
      have hM4 : M = L := by rw [HM.out, ← hlines]; exact HL2.out.symm
      clear hlines
      subst hM4
      have hd3 : decide ((4096 : Int) < (M : Int)) = false := by simp; omega
      obtain ⟨ao, cap, rfl⟩ : ∃ ao cap, v = .slice ao M cap := own_slice hown
      go_wp2_with (go_at_call 12; refine (awake26 _ hER).mono ?_; rintro e4 w4 ⟨rfl, hb4⟩)
      go_ret
      exact ⟨rfl, hbr.trans (hb4.mono hbr.size)⟩

theorem first_none : ∀ ls : List (List UInt8), ¬ okL ls → ∃ pr x rest, ls = pr ++ x :: rest ∧ okL pr ∧ stepT (trimL x) = none
  | [], h => absurd (fun l hl => by cases hl) h
  | l :: ls, h => by
    cases hs : stepT (trimL l) with
    | none => exact ⟨[], l, ls, rfl, (fun y hy => by cases hy), hs⟩
    | some t =>
      have h2 : ¬ okL ls := fun h3 => h (fun y hy => by
        rw [List.mem_cons] at hy
        rcases hy with rfl | hy
        · rw [hs]; exact fun h => by cases h
        · exact h3 y hy)
      obtain ⟨pr, x, rest, rfl, hp, hx⟩ := first_none ls h2
      exact ⟨l :: pr, x, rest, rfl, (fun y hy => by
        rw [List.mem_cons] at hy
        rcases hy with rfl | hy
        · rw [hs]; exact fun h => by cases h
        · exact hp y hy), hx⟩

set_option maxRecDepth 100000 in
set_option maxHeartbeats 1600000 in
theorem reads_long (s : ByteArray) (w : World) (hE : Env w) (hs : 131072 < s.size) :
    Calls Tryd.prog 5 #[.string s] w fun e w' => e = .returned (.bool true) ∧ Below w.heap.size w w' := by
  have hz8 := hE.size
  have hd : decide ((131072 : Int) < (s.size : Int)) = true := by simp; omega
  go_enter Tryd.func5, Tryd.ntmps5
  go_wp2_with (first
    | (go_at_call 14; refine (tread_long s _ hs).mono ?_; rintro e1 w1 ⟨rfl, hb1⟩; have hE1 := hE.below hb1 hz8)
    | (go_at_call 12; refine (awake26 _ hE1).mono ?_; rintro e4 w4 ⟨rfl, hb4⟩))
  go_ret
  exact ⟨rfl, hb1.trans (hb4.mono hb1.size)⟩

theorem reads26 (s : ByteArray) (w : World) (hE : Env w) :
    Calls Tryd.prog 5 #[.string s] w fun e w' => e = .returned (.bool true) ∧ Below w.heap.size w w' := by
  by_cases hs : s.size ≤ 131072
  · have hR := tread_few s w hE hs
    by_cases hok : okL (linesL s.data.toList)
    · by_cases h96 : 4096 < (linesL s.data.toList).length
      · refine reads_full s w hE hs hok h96 (hR.mono ?_)
        rintro e w' ⟨hb, ⟨pr, x, rest, hl, _, hst, _⟩ | ⟨_, _, rfl⟩ | ⟨_, hn, _⟩⟩
        · exact absurd hst (hok x (by rw [hl]; simp))
        · exact ⟨rfl, hb⟩
        · omega
      · refine reads_good s w hE hs hok (by omega) (hR.mono ?_)
        rintro e w' ⟨hb, ⟨pr, x, rest, hl, _, hst, _⟩ | ⟨_, hn, rfl⟩ | ⟨_, _, v, rfl, ho⟩⟩
        · exact absurd hst (hok x (by rw [hl]; simp))
        · omega
        · exact ⟨v, rfl, ho, hb⟩
    · obtain ⟨pr, x, rest, hl, hpr, hst⟩ : ∃ pr x rest, linesL s.data.toList = pr ++ x :: rest ∧ okL pr ∧ stepT (trimL x) = none := first_none _ hok
      refine reads_bad s w hE hs pr x rest hl hpr hst (hR.mono ?_)
      rintro e w' ⟨hb, ⟨pr', x', rest', hl', hpr', hst', rfl⟩ | ⟨hok', _⟩ | ⟨hok', _⟩⟩
      · have e : pr'.length = pr.length := first_bad (by rw [← hl', hl]) hpr' hpr hst' hst
        rw [e]
        exact ⟨rfl, hb⟩
      · exact absurd hok' hok
      · exact absurd hok' hok
  · exact reads_long s w hE (by omega)
end Go.Proofs.YtmadabecpgjpjaaDoor
