/- tale.Write: steps as a text. -/
import Derived.Test.YtmadabecpgjpjaaDoorLawT
namespace Go.Proofs.YtmadabecpgjpjaaDoor
open Go Go.RowKit Go.Shelf

/-- Steps in memory. -/
def StepsAt (W : World) (p : Option Addr) (ts : List (Int × Int × Int)) : Prop :=
  ts = [] ∨ ∃ b o, p = some ⟨b, o, none⟩ ∧ b < W.heap.size ∧ ∀ j, j < ts.length →
    W.cell? ⟨b, o + j * 3, none⟩ = some (.int .i64 (ts.getD j (0, 0, 0)).1) ∧ W.cell? ⟨b, o + j * 3 + 1, none⟩ = some (.int .i64 (ts.getD j (0, 0, 0)).2.1) ∧ W.cell? ⟨b, o + j * 3 + 2, none⟩ = some (.int .i64 (ts.getD j (0, 0, 0)).2.2)
theorem StepsAt.below {W W' : World} {p : Option Addr} {ts : List (Int × Int × Int)} (h : StepsAt W p ts) {B : Nat} (hb : Below B W W') (hB : W.heap.size ≤ B) : StepsAt W' p ts := by
  rcases h with h | ⟨b, o, hp, hl, hc⟩
  · exact .inl h
  · refine .inr ⟨b, o, hp, Nat.lt_of_lt_of_le hl hb.size, fun j hj => ?_⟩
    obtain ⟨h0, h1, h2⟩ := hc j hj
    exact ⟨(hb.cell (p := ⟨b, _, none⟩) (Nat.lt_of_lt_of_le hl hB)).trans h0, (hb.cell (p := ⟨b, _, none⟩) (Nat.lt_of_lt_of_le hl hB)).trans h1, (hb.cell (p := ⟨b, _, none⟩) (Nat.lt_of_lt_of_le hl hB)).trans h2⟩
def okS (t : Int × Int × Int) : Bool := okT t.1 t.2.1 t.2.2 2
def lineS (t : Int × Int × Int) : ByteArray := textT t.1 t.2.1 t.2.2
/-- The text of some steps. -/
def textS (ts : List (Int × Int × Int)) : List UInt8 := ts.flatMap fun t => (lineS t).data.toList ++ [10]
def I64S (t : Int × Int × Int) : Prop := I64 t.1 ∧ I64 t.2.1 ∧ I64 t.2.2
theorem textS_snoc (ts : List (Int × Int × Int)) (k : Nat) (h : k < ts.length) : textS (ts.take (k + 1)) = textS (ts.take k) ++ ((lineS (ts.getD k (0, 0, 0))).data.toList ++ [10]) := by
  unfold textS
  rw [List.take_succ_eq_append_getElem h, List.flatMap_append]
  simp [List.getD, List.getElem?_eq_getElem h]
theorem lineS_size {t : Int × Int × Int} (h : I64S t) : (lineS t).size ≤ 60 := textT_size h.2.1 h.2.2
theorem textS_len : ∀ (ts : List (Int × Int × Int)), (∀ t ∈ ts, I64S t) → (textS ts).length ≤ 61 * ts.length
  | [], _ => Nat.le_refl _
  | t :: ts, h => by
    have h1 := textS_len ts (fun x hx => h x (by simp [hx]))
    have h2 := lineS_size (h t (by simp))
    have h3 : (lineS t).data.toList.length = (lineS t).size := Array.length_toList
    unfold textS at h1 ⊢
    simp only [List.flatMap_cons, List.length_append, List.length_cons, List.length_nil]
    omega
/-- What tale.Write answers. -/
def WrT (ts : List (Int × Int × Int)) (e : Ending) : Prop :=
  ((∀ t ∈ ts, okS t = true) ∧ ts.length ≤ 4096 ∧ (textS ts).length ≤ 131072 ∧ e = .returned (.tuple #[.string ⟨(textS ts).toArray⟩, .int .i64 0])) ∨
  ((∀ t ∈ ts, okS t = true) ∧ (4096 < ts.length ∨ 131072 < (textS ts).length) ∧ e = .returned (.tuple #[.string ⟨#[]⟩, .int .i64 6])) ∨
  ((∃ t ∈ ts, okS t = false) ∧ e = .returned (.tuple #[.string ⟨#[]⟩, .int .i64 1]))

set_option maxRecDepth 100000 in
set_option maxHeartbeats 2000000 in
theorem twrite_any (p : Option Addr) (ts : List (Int × Int × Int)) (c : Nat) (w : World) (hE : Env w) (hst : StepsAt w p ts) (h64 : ∀ t ∈ ts, I64S t) (hn : ts.length ≤ 1048576) :
    Calls Tryd.prog 21 #[.slice p ts.length c] w fun e w' => WrT ts e ∧ Below w.heap.size w w' := by
  have hz8 := hE.size
  obtain ⟨N, hN⟩ : ∃ N, N = ts.length := ⟨_, rfl⟩
  rw [← hN]
  have HN := Lib.hid hN
  have HST := Lib.hid hst
  have H64 := Lib.hid h64
  have hN1 : N ≤ 1048576 := by omega
  clear hst h64 hn hN
  go_enter Tryd.func21, Tryd.ntmps21
  go_upto_region 2 with fail
  have hB := Bd.fresh w
  generalize hw2 : w.alloc _ = w2
  rw [hw2] at hB
  have hb2 : Below w.heap.size w w2 := by rw [← hw2]; exact (Below.refl _ w).alloc (Nat.le_refl _) _
  clear hw2
  go_wp2
  go_loopw [11] (fun i wr => ∃ k : Nat, k ≤ N ∧ i = .int .i64 k ∧ (∀ j, j < k → okS (ts.getD j (0, 0, 0)) = true) ∧ Bd w.heap.size w.heap.size (textS (ts.take k)) wr ∧ Below w.heap.size w wr)
    (fun i _ => N - (intOf i).toNat)
  case atStart => exact ⟨0, Nat.zero_le _, rfl, (fun j hj => by omega), hB, hb2⟩
  case round =>
    obtain ⟨k, hk, rfl, hok, hBk, hbr⟩ := hrel
    have HOK := Lib.hid hok
    clear hok
    have hER := hE.below hbr hz8
    by_cases hlt : k < N
    · have hd : decide ((k : Int) < (N : Int)) = true := by simp; omega
      have hS := HST.out.below hbr (Nat.le_refl _)
      rcases hS with hS | ⟨b, o, rfl, hbl, hcells⟩
      · exfalso
        have := HN.out
        rw [hS] at this
        simp at this
        omega
      obtain ⟨c0, c1, c2⟩ := hcells k (by rw [← HN.out]; exact hlt)
      obtain ⟨t, ht⟩ : ∃ t, t = ts.getD k (0, 0, 0) := ⟨_, rfl⟩
      rw [← ht] at c0 c1 c2
      have htm : t ∈ ts := by
        rw [ht, List.getD, List.getElem?_eq_getElem (by rw [← HN.out]; exact hlt)]
        simp
      have h6 := H64.out t htm
      have hsz := lineS_size h6
      have hlen := textS_len (ts.take k) (fun x hx => H64.out x (List.mem_of_mem_take hx))
      rw [List.length_take] at hlen
      have hsn := textS_snoc ts k (by rw [← HN.out]; exact hlt)
      rw [← ht] at hsn
      have HSN := Lib.hid hsn
      have HT := Lib.hid ht
      obtain ⟨T, hTe⟩ : ∃ T, T = textS (ts.take k) := ⟨_, rfl⟩
      rw [← hTe] at HSN hBk hlen
      have hT : T.length ≤ 61 * 1048576 := by omega
      have i1 : (k : Int) < (N : Int) := by omega
      have i2 : (0 : Int) ≤ (k : Int) := Int.natCast_nonneg _
      clear hcells ht hsn hTe hlen
      obtain ⟨tk, ta, tb⟩ := t
      rcases hq : okS (tk, ta, tb) with _ | _
      · have HQ := Lib.hid hq
        clear hq
        go_upto_region 5 with fail
        generalize hw3 : World.alloc _ _ = w3
        have hb3 : Below wr.heap.size wr w3 := by rw [← hw3]; exact (Below.refl _ wr).alloc (Nat.le_refl _) _
        have hg3 : w3.heap[wr.heap.size]? = some (.cells #[.int .i64 tk, .int .i64 ta, .int .i64 tb] 23 (0, 0)) := by rw [← hw3]; exact World.alloc_heap_new wr _
        have hE3 := hER.below hb3 hER.size
        have d0 := (Lib.cell_of_heap hg3 0).trans (show _ = some (Value.int .i64 tk) from rfl)
        have d1 := (Lib.cell_of_heap hg3 1).trans (show _ = some (Value.int .i64 ta) from rfl)
        have d2 := (Lib.cell_of_heap hg3 2).trans (show _ = some (Value.int .i64 tb) from rfl)
        clear hw3 c0 c1 c2
        have HM := Lib.hid (show ∃ t ∈ ts, okS t = false from ⟨_, htm, HQ.out⟩)
        go_wp2_with (go_at_call 10; refine (line_bad h6.2.1 h6.2.2 _ hE3 HQ.out).mono ?_; rintro e4 w4 ⟨rfl, hb4⟩)
        go_ret2
        exact ⟨.inr (.inr ⟨HM.out, rfl⟩), hbr.trans ((hb3.trans (hb4.mono hb3.size)).mono hbr.size)⟩
      · have HQ := Lib.hid hq
        have hokn : ∀ j, j < k + 1 → okS (ts.getD j (0, 0, 0)) = true := fun j hj => by
          rcases Nat.lt_or_ge j k with h | h
          · exact HOK.out j h
          · rw [show j = k by omega, ← HT.out]; exact hq
        have HOKN := Lib.hid hokn
        clear hq hokn
        have hG := fun (v : World) (hv : Env v) => line_good h6.2.1 h6.2.2 v hv HQ.out
        obtain ⟨Y, hY⟩ : ∃ Y, Y = lineS (tk, ta, tb) := ⟨_, rfl⟩
        have hG' : ∀ v : World, Env v → Calls Tryd.prog 10 #[.agg #[.int .i64 tk, .int .i64 ta, .int .i64 tb]] v fun e w' => e = .returned (.tuple #[.string Y, .int .i64 0]) ∧ Below v.heap.size v w' := by rw [hY]; exact hG
        have HG := Lib.hid hG'
        rw [← hY] at HSN hsz
        have hYs : (Y ++ ⟨#[10]⟩).size ≤ 61 := by
          rw [ByteArray.size_append]
          show Y.size + 1 ≤ 61
          omega
        have hYl : T ++ (Y ++ ⟨#[10]⟩).data.toList = textS (ts.take (k + 1)) := by rw [HSN.out]; simp [ByteArray.data_append]
        have HYL := Lib.hid hYl
        have hWS : ∀ v : World, Bd w.heap.size w.heap.size T v → w.heap.size ≤ v.heap.size → Calls Tryd.prog 39 #[.pointer (some ⟨w.heap.size, 0, none⟩), .string (Y ++ ⟨#[10]⟩)] v fun e w' => e = .returned (.tuple #[.int .i64 (Y ++ ⟨#[10]⟩).size, .nilIface]) ∧ Bd w.heap.size w.heap.size (textS (ts.take (k + 1))) w' ∧ Below w.heap.size v w' := fun v h1 h2 => by
          have := wstring w.heap.size w.heap.size T (Y ++ ⟨#[10]⟩) v h1 (by omega) h2
          rw [hYl] at this
          exact this
        have HWS := Lib.hid hWS
        clear hG hG' hY hYl hWS
        go_upto_region 5 with fail
        generalize hw3 : World.alloc _ _ = w3
        have hb3 : Below wr.heap.size wr w3 := by rw [← hw3]; exact (Below.refl _ wr).alloc (Nat.le_refl _) _
        have hg3 : w3.heap[wr.heap.size]? = some (.cells #[.int .i64 tk, .int .i64 ta, .int .i64 tb] 23 (0, 0)) := by rw [← hw3]; exact World.alloc_heap_new wr _
        have hE3 := hER.below hb3 hER.size
        have d0 := (Lib.cell_of_heap hg3 0).trans (show _ = some (Value.int .i64 tk) from rfl)
        have d1 := (Lib.cell_of_heap hg3 1).trans (show _ = some (Value.int .i64 ta) from rfl)
        have d2 := (Lib.cell_of_heap hg3 2).trans (show _ = some (Value.int .i64 tb) from rfl)
        have hB3 := hBk.later hb3
        have z2 := hbr.size
        have z3 := hb3.size
        clear hw3 c0 c1 c2
        go_wp2_with (go_at_call 10; refine (HG.out _ hE3).mono ?_; rintro e4 w4 ⟨rfl, hb4⟩; have hB4 := hB3.later hb4; have z4 := hb4.size)
        refine (HWS.out _ hB4 (Nat.le_trans (Nat.le_trans z2 z3) z4)).mono ?_
        rintro e5 w5 ⟨rfl, hB5, hb5⟩
        go_wp2
        go_roundw
        case rel => exact ⟨k + 1, by omega, by go_num, HOKN.out, hB5, ((hbr.trans (hb3.mono z2)).trans (hb4.mono (Nat.le_trans z2 z3))).trans hb5⟩
        case measure => simp [intOf]; omega
    · obtain rfl : k = N := by omega
      have hd : decide ((k : Int) < (k : Int)) = false := by simp
      rw [HN.out, List.take_length] at hBk
      have hall : ∀ t ∈ ts, okS t = true := fun t ht => by
        obtain ⟨j, hj, rfl⟩ := List.getElem_of_mem ht
        have := HOK.out j (by rw [HN.out]; exact hj)
        rw [List.getD, List.getElem?_eq_getElem hj, Option.getD_some] at this
        exact this
      have HAL := Lib.hid hall
      obtain ⟨T, hTe⟩ : ∃ T, T = textS ts := ⟨_, rfl⟩
      have HTE := Lib.hid hTe
      rw [← hTe] at hBk
      have hlen := textS_len ts H64.out
      rw [← hTe, ← HN.out] at hlen
      clear hall hTe
      by_cases h96 : 4096 < k
      · have hd3 : decide ((4096 : Int) < (k : Int)) = true := by simp; omega
        go_wp2
        go_ret2
        exact ⟨.inr (.inl ⟨HAL.out, .inl (by rw [← HN.out]; exact h96), rfl⟩), hbr⟩
      · have hd3 : decide ((4096 : Int) < (k : Int)) = false := by simp; omega
        by_cases h13 : 131072 < T.length
        · have hd4 : decide ((131072 : Int) < (T.length : Int)) = true := by simp; omega
          go_wp2_with (go_at_call 40; refine (len_any w.heap.size w.heap.size T _ hBk).mono ?_; rintro e4 w4 ⟨rfl, rfl⟩)
          go_ret2
          exact ⟨.inr (.inl ⟨HAL.out, .inr (by rw [← HTE.out]; exact h13), rfl⟩), hbr⟩
        · have hd4 : decide ((131072 : Int) < (T.length : Int)) = false := by simp; omega
          go_wp2_with (first
            | (go_at_call 40; refine (len_any w.heap.size w.heap.size T _ hBk).mono ?_; rintro e4 w4 ⟨rfl, rfl⟩)
            | (go_at_call 41; refine (text_any w.heap.size w.heap.size T _ hBk hbr.size).mono ?_; rintro e5 w5 ⟨rfl, hb5⟩))
          go_ret2
          exact ⟨.inl ⟨HAL.out, by rw [← HN.out]; omega, by rw [← HTE.out]; omega, (by rw [← HTE.out]; rfl)⟩, hbr.trans hb5⟩
end Go.Proofs.YtmadabecpgjpjaaDoor
