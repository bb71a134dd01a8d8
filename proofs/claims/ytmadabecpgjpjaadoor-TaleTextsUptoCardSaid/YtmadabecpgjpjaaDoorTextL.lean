/- The law TaleTexts: its walk. -/
import Derived.Test.YtmadabecpgjpjaaDoorTextP
import Derived.Test.YtmadabecpgjpjaaDoorReadsL
namespace Go.Proofs.YtmadabecpgjpjaaDoor
open Go Go.RowKit Go.Shelf

/-- What the law itself has joined. -/
def wantS (ts : List (Int × Int × Int)) (k : Nat) : ByteArray := ⟨(textS (ts.take (if k < 5000 then k else 5000))).toArray⟩
theorem wantS_next {ts : List (Int × Int × Int)} {k : Nat} (h : k < ts.length) (hk : k < 5000) : wantS ts k ++ (lineS (ts.getD k (0, 0, 0)) ++ ⟨#[10]⟩) = wantS ts (k + 1) := by
  apply ByteArray.ext
  have e1 : (if k < 5000 then k else 5000) = k := if_pos hk
  have e2 : (if k + 1 < 5000 then k + 1 else 5000) = k + 1 := by split <;> omega
  unfold wantS
  rw [e1, e2, textS_snoc ts k h]
  simp [ByteArray.data_append]
theorem wantS_same {ts : List (Int × Int × Int)} {k : Nat} (hk : ¬ k < 5000) : wantS ts k = wantS ts (k + 1) := by
  unfold wantS
  rw [if_neg hk, if_neg (by omega)]
theorem wantS_size {ts : List (Int × Int × Int)} (h : ∀ t ∈ ts, I64S t) (k : Nat) : (wantS ts k).size ≤ 61 * 5000 := by
  unfold wantS
  show (textS _).toArray.size ≤ _
  rw [List.size_toArray]
  have h1 := textS_len (ts.take (if k < 5000 then k else 5000)) (fun x hx => h x (List.mem_of_mem_take hx))
  rw [List.length_take] at h1
  have : (if k < 5000 then k else 5000) ≤ 5000 := by split <;> omega
  omega
theorem wantS_all {ts : List (Int × Int × Int)} (h : ts.length < 5000) : wantS ts ts.length = ⟨(textS ts).toArray⟩ := by
  unfold wantS
  rw [if_pos h, List.take_length]
theorem flat_at (ts : List (Int × Int × Int)) (j : Nat) (h : j < ts.length) : ∃ p q : List Value, ts.flatMap cellsS = p ++ (cellsS ((ts.getD j (0, 0, 0)).1, (ts.getD j (0, 0, 0)).2.1, (ts.getD j (0, 0, 0)).2.2) ++ q) ∧ p.length = j * 3 := by
  refine ⟨(ts.take j).flatMap cellsS, (ts.drop (j + 1)).flatMap cellsS, ?_, ?_⟩
  · have e : ts = ts.take j ++ (ts[j] :: ts.drop (j + 1)) := by rw [List.getElem_cons_drop, List.take_append_drop]
    have e2 : ts.getD j (0, 0, 0) = ts[j] := by rw [List.getD, List.getElem?_eq_getElem h]; rfl
    rw [e2]
    conv => lhs; rw [e]
    rw [List.flatMap_append, List.flatMap_cons]
  · rw [cellsS_len, List.length_take, Nat.min_eq_left (by omega), Nat.mul_comm]

set_option maxRecDepth 100000 in
set_option maxHeartbeats 4000000 in
theorem texts_bad (p : Option Addr) (ts : List (Int × Int × Int)) (c : Nat) (w : World) (hE : Env w) (hst : StepsAt w p ts) (h64 : ∀ t ∈ ts, I64S t) (hn : ts.length ≤ 1048576) (hbad : ∃ t ∈ ts, okS t = false)
    (hR : Calls Tryd.prog 21 #[.slice p ts.length c] w fun e w' => e = .returned (.tuple #[.string ⟨#[]⟩, .int .i64 1]) ∧ Below w.heap.size w w') :
    Calls Tryd.prog 9 #[.slice p ts.length c] w fun e w' => e = .returned (.bool true) ∧ Below w.heap.size w w' := by
  have hz8 := hE.size
  have HBD := Lib.hid hbad
  clear hbad
  obtain ⟨N, hN⟩ : ∃ N, N = ts.length := ⟨_, rfl⟩
  rw [← hN] at hR ⊢
  have HR := Lib.hid hR
  have HN := Lib.hid hN
  have HST := Lib.hid hst
  have H64 := Lib.hid h64
  have hN1 : N ≤ 1048576 := by omega
  clear hst h64 hn hN hR
  go_enter Tryd.func9, Tryd.ntmps9
  go_wp2_with (go_at_call 21; refine HR.out.mono ?_; rintro e1 w1 ⟨rfl, hb1⟩)
  go_loopw [5, 6] (fun t5 i wr => ∃ k : Nat, k ≤ N ∧ i = .int .i64 k ∧ t5 = .string (wantS ts k) ∧ (∀ j, j < k → okS (ts.getD j (0, 0, 0)) = true) ∧ Below w.heap.size w wr)
    (fun _ i _ => N - (intOf i).toNat)
  case atStart => exact ⟨0, Nat.zero_le _, rfl, rfl, (fun j hj => by omega), hb1⟩
  case round =>
    obtain ⟨k, hk, rfl, rfl, hok, hbr⟩ := hrel
    have HOK := Lib.hid hok
    clear hok
    have hER := hE.below hbr hz8
    have hws := wantS_size H64.out k
    by_cases hlt : k < N
    · have hd : decide ((k : Int) < (N : Int)) = true := by simp; omega
      have hS := HST.out.below hbr (Nat.le_refl _)
      rcases hS with hS | ⟨b, o, rfl, hbl, hcells⟩
      · exfalso
        have := HN.out
        rw [hS] at this
        simp at this
        omega
      obtain ⟨c0, c1, c2⟩ := hcells k (by rw [← HN.out]; exact hlt)
      obtain ⟨t, ht⟩ : ∃ t, t = ts.getD k (0, 0, 0) := ⟨_, rfl⟩
      rw [← ht] at c0 c1 c2
      have htm : t ∈ ts := by
        rw [ht, List.getD, List.getElem?_eq_getElem (by rw [← HN.out]; exact hlt)]
        simp
      have h6 := H64.out t htm
      have hsz := lineS_size h6
      have HT := Lib.hid ht
      have i1 : (k : Int) < (N : Int) := by omega
      have i2 : (0 : Int) ≤ (k : Int) := Int.natCast_nonneg _
      have hnext := fun h5 => wantS_next (ts := ts) (k := k) (by rw [← HN.out]; exact hlt) h5
      rw [← ht] at hnext
      have HNX := Lib.hid hnext
      clear hcells ht hnext
      obtain ⟨tk, ta, tb⟩ := t
      rcases hq : okS (tk, ta, tb) with _ | _
      · have HQ := Lib.hid hq
        clear hq
        go_wp2_with (first
          | (go_at_call 11; refine (ref_bad h6.2.1 h6.2.2 _ HQ.out).mono ?_; rintro e3 w3 ⟨tt, rfl, hb3⟩; have hE3 := hER.below hb3 hER.size)
          | (go_at_call 12; refine (awake26 _ hE3).mono ?_; rintro e4 w4 ⟨rfl, hb4⟩))
        go_ret
        exact ⟨rfl, (hbr.trans (hb3.mono hbr.size)).trans (hb4.mono (Nat.le_trans hbr.size hb3.size))⟩
      · have HQ := Lib.hid hq
        have hokn : ∀ j, j < k + 1 → okS (ts.getD j (0, 0, 0)) = true := fun j hj => by
          rcases Nat.lt_or_ge j k with h | h
          · exact HOK.out j h
          · rw [show j = k by omega, ← HT.out]; exact hq
        have HOKN := Lib.hid hokn
        clear hq hokn
        obtain ⟨Y, hY⟩ : ∃ Y, Y = lineS (tk, ta, tb) := ⟨_, rfl⟩
        have hG := fun v : World => ref_good h6.2.1 h6.2.2 v HQ.out
        have hG' : ∀ v : World, Calls Tryd.prog 11 #[.agg #[.int .i64 tk, .int .i64 ta, .int .i64 tb]] v fun e w' => e = .returned (.tuple #[.string Y, .bool true]) ∧ Below v.heap.size v w' := by rw [hY]; exact hG
        have HG := Lib.hid hG'
        rw [← hY] at HNX hsz
        obtain ⟨X, hX⟩ : ∃ X, X = wantS ts k := ⟨_, rfl⟩
        have HXk := Lib.hid hX
        rw [← hX] at HNX hws ⊢
        clear hG hG' hY hX
        by_cases h5 : k < 5000
        · have hd5 : decide ((k : Int) < 5000) = true := by simp; omega
          go_wp2_with (go_at_call 11; refine (HG.out _).mono ?_; rintro e3 w3 ⟨rfl, hb3⟩)
          go_roundw
          case rel => exact ⟨k + 1, by omega, by go_num, by rw [HNX.out h5], HOKN.out, hbr.trans (hb3.mono hbr.size)⟩
          case measure => simp [intOf]; omega
        · have hd5 : decide ((k : Int) < 5000) = false := by simp; omega
          go_wp2_with (go_at_call 11; refine (HG.out _).mono ?_; rintro e3 w3 ⟨rfl, hb3⟩)
          go_roundw
          case rel => exact ⟨k + 1, by omega, by go_num, by rw [← wantS_same h5, HXk.out], HOKN.out, hbr.trans (hb3.mono hbr.size)⟩
          case measure => simp [intOf]; omega
    · obtain rfl : k = N := by omega
      have hd : decide ((k : Int) < (k : Int)) = false := by simp
      exfalso
      obtain ⟨t, ht, hf⟩ := HBD.out
      obtain ⟨j, hj, rfl⟩ := List.getElem_of_mem ht
      have := HOK.out j (by rw [HN.out]; exact hj)
      rw [List.getD, List.getElem?_eq_getElem hj, Option.getD_some, hf] at this
      cases this

set_option maxRecDepth 100000 in
set_option maxHeartbeats 4000000 in
theorem texts_big (p : Option Addr) (ts : List (Int × Int × Int)) (c : Nat) (w : World) (hE : Env w) (hst : StepsAt w p ts) (h64 : ∀ t ∈ ts, I64S t) (hn : ts.length ≤ 1048576) (hall : ∀ t ∈ ts, okS t = true) (hbig : 4096 < ts.length ∨ 131072 < (textS ts).length)
    (hR : Calls Tryd.prog 21 #[.slice p ts.length c] w fun e w' => e = .returned (.tuple #[.string ⟨#[]⟩, .int .i64 6]) ∧ Below w.heap.size w w') :
    Calls Tryd.prog 9 #[.slice p ts.length c] w fun e w' => e = .returned (.bool true) ∧ Below w.heap.size w w' := by
  have hz8 := hE.size
  have HAL := Lib.hid hall
  have HBG := Lib.hid hbig
  clear hall hbig
  obtain ⟨N, hN⟩ : ∃ N, N = ts.length := ⟨_, rfl⟩
  rw [← hN] at hR ⊢
  have HR := Lib.hid hR
  have HN := Lib.hid hN
  have HST := Lib.hid hst
  have H64 := Lib.hid h64
  have hN1 : N ≤ 1048576 := by omega
  clear hst h64 hn hN hR
  go_enter Tryd.func9, Tryd.ntmps9
  go_wp2_with (go_at_call 21; refine HR.out.mono ?_; rintro e1 w1 ⟨rfl, hb1⟩)
  go_loopw [5, 6] (fun t5 i wr => ∃ k : Nat, k ≤ N ∧ i = .int .i64 k ∧ t5 = .string (wantS ts k) ∧ (∀ j, j < k → okS (ts.getD j (0, 0, 0)) = true) ∧ Below w.heap.size w wr)
    (fun _ i _ => N - (intOf i).toNat)
  case atStart => exact ⟨0, Nat.zero_le _, rfl, rfl, (fun j hj => by omega), hb1⟩
  case round =>
    obtain ⟨k, hk, rfl, rfl, hok, hbr⟩ := hrel
    have HOK := Lib.hid hok
    clear hok
    have hER := hE.below hbr hz8
    have hws := wantS_size H64.out k
    by_cases hlt : k < N
    · have hd : decide ((k : Int) < (N : Int)) = true := by simp; omega
      have hS := HST.out.below hbr (Nat.le_refl _)
      rcases hS with hS | ⟨b, o, rfl, hbl, hcells⟩
      · exfalso
        have := HN.out
        rw [hS] at this
        simp at this
        omega
      obtain ⟨c0, c1, c2⟩ := hcells k (by rw [← HN.out]; exact hlt)
      obtain ⟨t, ht⟩ : ∃ t, t = ts.getD k (0, 0, 0) := ⟨_, rfl⟩
      rw [← ht] at c0 c1 c2
      have htm : t ∈ ts := by
        rw [ht, List.getD, List.getElem?_eq_getElem (by rw [← HN.out]; exact hlt)]
        simp
      have h6 := H64.out t htm
      have hsz := lineS_size h6
      have HT := Lib.hid ht
      have i1 : (k : Int) < (N : Int) := by omega
      have i2 : (0 : Int) ≤ (k : Int) := Int.natCast_nonneg _
      have hnext := fun h5 => wantS_next (ts := ts) (k := k) (by rw [← HN.out]; exact hlt) h5
      rw [← ht] at hnext
      have HNX := Lib.hid hnext
      clear hcells ht hnext
      obtain ⟨tk, ta, tb⟩ := t
      rcases hq : okS (tk, ta, tb) with _ | _
      · rw [HAL.out _ htm] at hq
        cases hq
      · have HQ := Lib.hid hq
        have hokn : ∀ j, j < k + 1 → okS (ts.getD j (0, 0, 0)) = true := fun j hj => by
          rcases Nat.lt_or_ge j k with h | h
          · exact HOK.out j h
          · rw [show j = k by omega, ← HT.out]; exact hq
        have HOKN := Lib.hid hokn
        clear hq hokn
        obtain ⟨Y, hY⟩ : ∃ Y, Y = lineS (tk, ta, tb) := ⟨_, rfl⟩
        have hG := fun v : World => ref_good h6.2.1 h6.2.2 v HQ.out
        have hG' : ∀ v : World, Calls Tryd.prog 11 #[.agg #[.int .i64 tk, .int .i64 ta, .int .i64 tb]] v fun e w' => e = .returned (.tuple #[.string Y, .bool true]) ∧ Below v.heap.size v w' := by rw [hY]; exact hG
        have HG := Lib.hid hG'
        rw [← hY] at HNX hsz
        obtain ⟨X, hX⟩ : ∃ X, X = wantS ts k := ⟨_, rfl⟩
        have HXk := Lib.hid hX
        rw [← hX] at HNX hws ⊢
        clear hG hG' hY hX
        by_cases h5 : k < 5000
        · have hd5 : decide ((k : Int) < 5000) = true := by simp; omega
          go_wp2_with (go_at_call 11; refine (HG.out _).mono ?_; rintro e3 w3 ⟨rfl, hb3⟩)
          go_roundw
          case rel => exact ⟨k + 1, by omega, by go_num, by rw [HNX.out h5], HOKN.out, hbr.trans (hb3.mono hbr.size)⟩
          case measure => simp [intOf]; omega
        · have hd5 : decide ((k : Int) < 5000) = false := by simp; omega
          go_wp2_with (go_at_call 11; refine (HG.out _).mono ?_; rintro e3 w3 ⟨rfl, hb3⟩)
          go_roundw
          case rel => exact ⟨k + 1, by omega, by go_num, by rw [← wantS_same h5, HXk.out], HOKN.out, hbr.trans (hb3.mono hbr.size)⟩
          case measure => simp [intOf]; omega
    · obtain rfl : k = N := by omega
      have hd : decide ((k : Int) < (k : Int)) = false := by simp
      by_cases h96 : 4096 < k
      · have hd3 : decide ((4096 : Int) < (k : Int)) = true := by simp; omega
        go_wp2_with (go_at_call 12; refine (awake26 _ hER).mono ?_; rintro e4 w4 ⟨rfl, hb4⟩)
        go_ret
        exact ⟨rfl, hbr.trans (hb4.mono hbr.size)⟩
      · have hd3 : decide ((4096 : Int) < (k : Int)) = false := by simp; omega
        have hsz : 131072 < (wantS ts k).size := by
          rw [HN.out, wantS_all (by rw [← HN.out]; omega)]
          show 131072 < (textS ts).toArray.size
          rw [List.size_toArray]
          rcases HBG.out with h | h
          · rw [← HN.out] at h; omega
          · exact h
        have hd4 : decide ((131072 : Int) < ((wantS ts k).size : Int)) = true := by simp; omega
        go_wp2_with (go_at_call 12; refine (awake26 _ hER).mono ?_; rintro e4 w4 ⟨rfl, hb4⟩)
        go_ret
        exact ⟨rfl, hbr.trans (hb4.mono hbr.size)⟩

set_option maxRecDepth 100000 in
set_option maxHeartbeats 4000000 in
theorem texts_fit (p : Option Addr) (ts : List (Int × Int × Int)) (c : Nat) (w : World) (hE : Env w) (hst : StepsAt w p ts) (h64 : ∀ t ∈ ts, I64S t) (hn : ts.length ≤ 1048576) (hall : ∀ t ∈ ts, okS t = true) (hfew : ts.length ≤ 4096) (hshort : (textS ts).length ≤ 131072)
    (hR : Calls Tryd.prog 21 #[.slice p ts.length c] w fun e w' => e = .returned (.tuple #[.string ⟨(textS ts).toArray⟩, .int .i64 0]) ∧ Below w.heap.size w w') :
    Calls Tryd.prog 9 #[.slice p ts.length c] w fun e w' => e = .returned (.bool true) ∧ Below w.heap.size w w' := by
  have hz8 := hE.size
  have HAL := Lib.hid hall
  have hokt := ok_text hall h64
  have hgot := got_text hall h64
  have hwant : wantS ts ts.length = ⟨(textS ts).toArray⟩ := wantS_all (by omega)
  obtain ⟨S, hS0⟩ : ∃ S : ByteArray, S = ⟨(textS ts).toArray⟩ := ⟨_, rfl⟩
  have hSz : S.size ≤ 131072 := by rw [hS0]; show (textS ts).toArray.size ≤ _; rw [List.size_toArray]; exact hshort
  have hSl : S.data.toList = textS ts := by rw [hS0]
  have hll : (linesL (textS ts)).length = ts.length := by rw [lines_text, List.length_map]
  have hRD : ∀ v : World, Env v → Calls Tryd.prog 14 #[.string S] v fun e w' => ∃ r, e = .returned (.tuple #[r, .int .i64 0, .int .i64 0]) ∧ w'.ownsRow v.heap.size 23 3 r ts.length (ts.flatMap cellsS) ∧ Below v.heap.size v w' := fun v hv => by
    refine (tread_few S v hv hSz).mono ?_
    rw [hSl]
    rintro e w' ⟨hb, ⟨pr, x, rest, hl, _, hs, _⟩ | ⟨_, hm, _⟩ | ⟨_, _, r, rfl, ho⟩⟩
    · exact absurd hs (hokt x (by rw [hl]; simp))
    · omega
    · rw [hgot] at ho
      exact ⟨r, rfl, ho, hb⟩
  rw [← hS0] at hR hwant
  have HRD := Lib.hid hRD
  have HW := Lib.hid hwant
  clear hall hokt hgot hwant hS0 hSl hll hRD hshort
  obtain ⟨N, hN⟩ : ∃ N, N = ts.length := ⟨_, rfl⟩
  rw [← hN] at hR ⊢
  have HR := Lib.hid hR
  have HN := Lib.hid hN
  have HST := Lib.hid hst
  have H64 := Lib.hid h64
  have hN1 : N ≤ 1048576 := by omega
  clear hst h64 hn hN hR
  go_enter Tryd.func9, Tryd.ntmps9
  go_wp2_with (go_at_call 21; refine HR.out.mono ?_; rintro e1 w1 ⟨rfl, hb1⟩)
  go_loopw [5, 6] (fun t5 i wr => ∃ k : Nat, k ≤ N ∧ i = .int .i64 k ∧ t5 = .string (wantS ts k) ∧ (∀ j, j < k → okS (ts.getD j (0, 0, 0)) = true) ∧ Below w.heap.size w wr)
    (fun _ i _ => N - (intOf i).toNat)
  case atStart => exact ⟨0, Nat.zero_le _, rfl, rfl, (fun j hj => by omega), hb1⟩
  case round =>
    obtain ⟨k, hk, rfl, rfl, hok, hbr⟩ := hrel
    have HOK := Lib.hid hok
    clear hok
    have hER := hE.below hbr hz8
    have hws := wantS_size H64.out k
    by_cases hlt : k < N
    · have hd : decide ((k : Int) < (N : Int)) = true := by simp; omega
      have hS := HST.out.below hbr (Nat.le_refl _)
      rcases hS with hS | ⟨b, o, rfl, hbl, hcells⟩
      · exfalso
        have := HN.out
        rw [hS] at this
        simp at this
        omega
      obtain ⟨c0, c1, c2⟩ := hcells k (by rw [← HN.out]; exact hlt)
      obtain ⟨t, ht⟩ : ∃ t, t = ts.getD k (0, 0, 0) := ⟨_, rfl⟩
      rw [← ht] at c0 c1 c2
      have htm : t ∈ ts := by
        rw [ht, List.getD, List.getElem?_eq_getElem (by rw [← HN.out]; exact hlt)]
        simp
      have h6 := H64.out t htm
      have hsz := lineS_size h6
      have HT := Lib.hid ht
      have i1 : (k : Int) < (N : Int) := by omega
      have i2 : (0 : Int) ≤ (k : Int) := Int.natCast_nonneg _
      have hnext := fun h5 => wantS_next (ts := ts) (k := k) (by rw [← HN.out]; exact hlt) h5
      rw [← ht] at hnext
      have HNX := Lib.hid hnext
      clear hcells ht hnext
      obtain ⟨tk, ta, tb⟩ := t
      rcases hq : okS (tk, ta, tb) with _ | _
      · rw [HAL.out _ htm] at hq
        cases hq
      · have HQ := Lib.hid hq
        have hokn : ∀ j, j < k + 1 → okS (ts.getD j (0, 0, 0)) = true := fun j hj => by
          rcases Nat.lt_or_ge j k with h | h
          · exact HOK.out j h
          · rw [show j = k by omega, ← HT.out]; exact hq
        have HOKN := Lib.hid hokn
        clear hq hokn
        obtain ⟨Y, hY⟩ : ∃ Y, Y = lineS (tk, ta, tb) := ⟨_, rfl⟩
        have hG := fun v : World => ref_good h6.2.1 h6.2.2 v HQ.out
        have hG' : ∀ v : World, Calls Tryd.prog 11 #[.agg #[.int .i64 tk, .int .i64 ta, .int .i64 tb]] v fun e w' => e = .returned (.tuple #[.string Y, .bool true]) ∧ Below v.heap.size v w' := by rw [hY]; exact hG
        have HG := Lib.hid hG'
        rw [← hY] at HNX hsz
        obtain ⟨X, hX⟩ : ∃ X, X = wantS ts k := ⟨_, rfl⟩
        have HXk := Lib.hid hX
        rw [← hX] at HNX hws ⊢
        clear hG hG' hY hX
        by_cases h5 : k < 5000
        · have hd5 : decide ((k : Int) < 5000) = true := by simp; omega
          go_wp2_with (go_at_call 11; refine (HG.out _).mono ?_; rintro e3 w3 ⟨rfl, hb3⟩)
          go_roundw
          case rel => exact ⟨k + 1, by omega, by go_num, by rw [HNX.out h5], HOKN.out, hbr.trans (hb3.mono hbr.size)⟩
          case measure => simp [intOf]; omega
        · have hd5 : decide ((k : Int) < 5000) = false := by simp; omega
          go_wp2_with (go_at_call 11; refine (HG.out _).mono ?_; rintro e3 w3 ⟨rfl, hb3⟩)
          go_roundw
          case rel => exact ⟨k + 1, by omega, by go_num, by rw [← wantS_same h5, HXk.out], HOKN.out, hbr.trans (hb3.mono hbr.size)⟩
          case measure => simp [intOf]; omega
    · obtain rfl : k = N := by omega
      have hd : decide ((k : Int) < (k : Int)) = false := by simp
      have hW2 : wantS ts k = S := by rw [HN.out]; exact HW.out
      rw [hW2]
      clear hW2 hws
      have HRD2 := fun v hv => HRD.out v hv
      rw [← HN.out] at HRD2
      have HRD3 := Lib.hid HRD2
      clear HRD2
      have hd3 : decide ((4096 : Int) < (k : Int)) = false := by simp; have := HN.out; omega
      have hd4 : decide ((131072 : Int) < (S.size : Int)) = false := by simp; omega
      have hq1 : (S.toList == S.toList) = true := beq_self_eq_true _
      go_wp2_with (first
        | (go_at_call 14; refine (HRD3.out _ hER).mono ?_; rintro e3 w3 ⟨r, rfl, hown, hb3⟩; obtain ⟨ao, cap, rfl⟩ := own_slice hown; have hE3 := hER.below hb3 hER.size)
        | (go_at_call 12; refine (awake26 _ hE3).mono ?_; rintro e4 w4 ⟨rfl, hb4⟩; have hown4 := ownsRow_later hown hb4))
      have hB4 : Below w.heap.size w w4 := (hbr.trans (hb3.mono hbr.size)).trans (hb4.mono (Nat.le_trans hbr.size hb3.size))
      have HO := Lib.hid hown4
      clear hown hown4
      go_loopw [12] (fun i wr' => ∃ j : Nat, j ≤ k ∧ i = .int .i64 j ∧ Below w4.heap.size w4 wr')
        (fun i _ => k - (intOf i).toNat)
      case atStart => exact ⟨0, Nat.zero_le _, rfl, Below.refl _ _⟩
      case round =>
        obtain ⟨j, hj, rfl, hbj⟩ := hrel
        by_cases hlj : j < k
        · have hdj : decide ((j : Int) < (k : Int)) = true := by simp; omega
          have hS := HST.out.below (hB4.trans (hbj.mono hB4.size)) (Nat.le_refl _)
          rcases hS with hS | ⟨b, o, rfl, hbl, hcells⟩
          · exfalso
            have := HN.out
            rw [hS] at this
            simp at this
            omega
          obtain ⟨c0, c1, c2⟩ := hcells j (by rw [← HN.out]; exact hlj)
          have ho5 := ownsRow_later HO.out hbj
          obtain ⟨g, c4, hv⟩ := own_some ho5 (by omega)
          cases hv
          have hat := own_three (M := j) ho5 (k := (ts.getD j (0, 0, 0)).1) (a := (ts.getD j (0, 0, 0)).2.1) (b := (ts.getD j (0, 0, 0)).2.2) (flat_at ts j (by rw [← HN.out]; exact hlj))
          obtain ⟨q0, q1, q2⟩ := hat
          obtain ⟨t, ht⟩ : ∃ t, t = ts.getD j (0, 0, 0) := ⟨_, rfl⟩
          rw [← ht] at c0 c1 c2 q0 q1 q2
          have i1 : (j : Int) < (k : Int) := by omega
          have i2 : (0 : Int) ≤ (j : Int) := Int.natCast_nonneg _
          clear hcells ht
          obtain ⟨tk, ta, tb⟩ := t
          go_wp2
          go_quiet (fail)
          go_wp2
          go_roundw
          case rel => exact ⟨j + 1, by omega, by go_num, below_drewN hbj _⟩
          case measure => simp [intOf]; omega
        · obtain rfl : j = k := by omega
          have hdj : decide ((j : Int) < (j : Int)) = false := by simp
          go_wp2
          go_ret
          exact ⟨rfl, hB4.trans (hbj.mono hB4.size)⟩

theorem texts_any (p : Option Addr) (ts : List (Int × Int × Int)) (c : Nat) (w : World) (hE : Env w) (hst : StepsAt w p ts) (h64 : ∀ t ∈ ts, I64S t) (hn : ts.length ≤ 1048576) :
    Calls Tryd.prog 9 #[.slice p ts.length c] w fun e w' => e = .returned (.bool true) ∧ Below w.heap.size w w' := by
  have hR := twrite_any p ts c w hE hst h64 hn
  by_cases hall : ∀ t ∈ ts, okS t = true
  · by_cases hfit : ts.length ≤ 4096 ∧ (textS ts).length ≤ 131072
    · refine texts_fit p ts c w hE hst h64 hn hall hfit.1 hfit.2 (hR.mono ?_)
      rintro e w' ⟨⟨_, _, _, rfl⟩ | ⟨_, h, _⟩ | ⟨⟨t, ht, hf⟩, _⟩, hb⟩
      · exact ⟨rfl, hb⟩
      · omega
      · rw [hall t ht] at hf
        cases hf
    · refine texts_big p ts c w hE hst h64 hn hall (by omega) (hR.mono ?_)
      rintro e w' ⟨⟨_, h1, h2, _⟩ | ⟨_, _, rfl⟩ | ⟨⟨t, ht, hf⟩, _⟩, hb⟩
      · exact absurd ⟨h1, h2⟩ hfit
      · exact ⟨rfl, hb⟩
      · rw [hall t ht] at hf
        cases hf
  · have hbad : ∃ t ∈ ts, okS t = false := by
      apply Classical.byContradiction
      intro hno
      apply hall
      intro t ht
      cases h : okS t with
      | true => rfl
      | false => exact absurd ⟨t, ht, h⟩ hno
    refine texts_bad p ts c w hE hst h64 hn hbad (hR.mono ?_)
    rintro e w' ⟨⟨h, _⟩ | ⟨h, _⟩ | ⟨_, rfl⟩, hb⟩
    · exact absurd h hall
    · exact absurd h hall
    · exact ⟨rfl, hb⟩
end Go.Proofs.YtmadabecpgjpjaaDoor
