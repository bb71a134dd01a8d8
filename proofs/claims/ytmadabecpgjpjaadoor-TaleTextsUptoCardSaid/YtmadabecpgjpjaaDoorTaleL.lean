/- tale.Line. -/
import Derived.Test.YtmadabecpgjpjaaDoorTaleW
namespace Go.Proofs.YtmadabecpgjpjaaDoor
open Go.RowKit

/-- Whether a step is one, its first numbers looked at. -/
def okT (k a b : Int) : Nat → Bool
  | 0 => isT k
  | j + 1 => okT k a b j && (decide ((j : Int) < (sizeT k : Int)) || numsT a b j == 0)
theorem sizeT_le (k : Int) : sizeT k ≤ 2 := by
  unfold sizeT
  split <;> decide
theorem wordT_le (k : Int) : (wordT k).size ≤ 5 := by
  unfold wordT
  split <;> decide

/-- The line of a step, or none. -/
def textT (k a b : Int) : ByteArray := if okT k a b 2 then lineT (wordT k) (sizeT k) a b else ⟨#[]⟩
/-- The error. -/
def errT (k a b : Int) : Int := if okT k a b 2 then 0 else 1
theorem textT_no {k a b : Int} (h : okT k a b 2 = false) : textT k a b = ⟨#[]⟩ ∧ errT k a b = 1 := by simp [textT, errT, h]
theorem textT_yes {k a b : Int} (h : okT k a b 2 = true) : textT k a b = lineT (wordT k) (sizeT k) a b ∧ errT k a b = 0 := by simp [textT, errT, h]

set_option maxRecDepth 100000 in
set_option maxHeartbeats 1600000 in
theorem tline_any (k a b : Int) (ha : I64 a) (hb : I64 b) (w : World) (hE : Env w) :
    Calls Tryd.prog 10 #[.agg #[.int .i64 k, .int .i64 a, .int .i64 b]] w fun e w' =>
      e = .returned (.tuple #[.string (textT k a b), .int .i64 (errT k a b)]) ∧ Below w.heap.size w w' := by
  have hz8 := hE.size
  obtain ⟨z, Hz⟩ : ∃ z : Int, Hid (z = ((sizeT k : Nat) : Int)) := ⟨_, Lib.hid rfl⟩
  have hzv : z = 0 ∨ z = 1 ∨ z = 2 := by have := sizeT_le k; have := Hz.out; omega
  have HZ := Lib.hid hzv
  clear hzv
  obtain ⟨wd, Hwd⟩ : ∃ wd, Hid (wd = wordT k) := ⟨_, Lib.hid rfl⟩
  go_enter Tryd.func10, Tryd.ntmps10
  go_upto_region 2 with (go_at_call 22; refine (forms_any k _).mono ?_; rw [← Hz.out, ← Hwd.out]; rintro e1 w1 ⟨rfl, hb1⟩)
  have d1 : w1.cell? ⟨w.heap.size, 1, none⟩ = some (.int .i64 a) := (hb1.cell (p := ⟨w.heap.size, 1, none⟩) (by simp)).trans (by simp)
  have d2 : w1.cell? ⟨w.heap.size, 2, none⟩ = some (.int .i64 b) := (hb1.cell (p := ⟨w.heap.size, 2, none⟩) (by simp)).trans (by simp)
  have hs1 : w.heap.size < w1.heap.size := by have := hb1.size; simp at this; omega
  have hbw1 : Below w.heap.size w w1 := ((Below.refl _ w).alloc (Nat.le_refl _) _).trans (hb1.mono (by simp))
  clear hb1
  generalize hw2 : w1.alloc _ = w2
  have hb2 : Below w1.heap.size w1 w2 := by rw [← hw2]; exact (Below.refl _ _).alloc (Nat.le_refl _) _
  have k0 : w2.cell? ⟨w1.heap.size, 0, none⟩ = some (.string wd) := by rw [← hw2]; simp
  have k1 : w2.cell? ⟨w1.heap.size, 1, none⟩ = some (.int .i64 z) := by rw [← hw2]; simp
  have e1 := (hb2.cell (p := ⟨w.heap.size, 1, none⟩) hs1).trans d1
  have e2 := (hb2.cell (p := ⟨w.heap.size, 2, none⟩) hs1).trans d2
  have hs2 : w2.heap.size = w1.heap.size + 1 := by rw [← hw2]; simp
  clear hw2 d1 d2
  go_upto_region 3 with fail
  generalize hw3 : w2.alloc _ = w3
  have hb3 : Below w2.heap.size w2 w3 := by rw [← hw3]; exact (Below.refl _ _).alloc (Nat.le_refl _) _
  have m0 : w3.cell? ⟨w2.heap.size, 0, none⟩ = some (.int .i64 a) := by rw [← hw3]; simp
  have m1 : w3.cell? ⟨w2.heap.size, 1, none⟩ = some (.int .i64 b) := by rw [← hw3]; simp
  have n0 := (hb3.cell (p := ⟨w1.heap.size, 0, none⟩) (by show w1.heap.size < _; omega)).trans k0
  have n1 := (hb3.cell (p := ⟨w1.heap.size, 1, none⟩) (by show w1.heap.size < _; omega)).trans k1
  have hbw3 : Below w.heap.size w w3 := (hbw1.trans (hb2.mono (by omega))).trans (hb3.mono (by omega))
  have hE3 := hE.below hbw3 hz8
  have hs3 := hb3.size
  clear hw3 k0 k1 e1 e2 hb2 hb3 hbw1
  rw [hs2] at m0 m1
  have i0 : ∀ w, (Instr.index 54 (.agg #[.int .i64 a, .int .i64 b]) (.int .i64 0)).run Tryd.prog w = .ok (.int .i64 a) w := fun _ => by kernel_rfl
  have i1 : ∀ w, (Instr.index 54 (.agg #[.int .i64 a, .int .i64 b]) (.int .i64 1)).run Tryd.prog w = .ok (.int .i64 b) w := fun _ => by kernel_rfl
  go_wp2
  go_loopw [5, 21] (fun o i wr => ((i = .int .i64 0 ∧ o = .bool (okT k a b 0)) ∨ (i = .int .i64 1 ∧ o = .bool (okT k a b 1)) ∨ (i = .int .i64 2 ∧ o = .bool (okT k a b 2))) ∧ wr = w3)
    (fun _ i _ => 2 - (intOf i).toNat)
  case atStart => exact ⟨.inl ⟨rfl, rfl⟩, rfl⟩
  case round =>
    obtain ⟨hj, rfl⟩ := hrel
    rcases hj with ⟨rfl, rfl⟩ | ⟨rfl, rfl⟩ | ⟨rfl, rfl⟩
    · obtain ⟨o, Ho⟩ : ∃ o, Hid (o = okT k a b 0) := ⟨_, Lib.hid rfl⟩
      have hst : okT k a b 1 = (okT k a b 0 && (decide (((0 : Nat) : Int) < ((sizeT k : Nat) : Int)) || numsT a b 0 == 0)) := rfl
      rw [← Ho.out, ← Hz.out, show numsT a b 0 = a from rfl] at hst
      have Hst := Lib.hid hst
      clear hst
      rw [← Ho.out]
      clear Ho
      cases o
      · go_wp2
        go_roundw
        case rel => exact ⟨Or.inr (Or.inl ⟨by first | rfl | trivial, by rw [Hst.out]; simp⟩), by first | rfl | trivial⟩
        case measure => simp [intOf]
      · rcases HZ.out with rfl | rfl | rfl
        · have hx : (a == 0) = true ∨ (a == 0) = false := by cases (a == 0) <;> simp
          rcases hx with hx | hx
          · go_wp2
            go_roundw
            case rel => exact ⟨Or.inr (Or.inl ⟨by first | rfl | trivial, by rw [Hst.out]; simp [hx]⟩), by first | rfl | trivial⟩
            case measure => simp [intOf]
          · go_wp2
            go_roundw
            case rel => exact ⟨Or.inr (Or.inl ⟨by first | rfl | trivial, by rw [Hst.out]; simp [hx]⟩), by first | rfl | trivial⟩
            case measure => simp [intOf]
        · go_wp2
          go_roundw
          case rel => exact ⟨Or.inr (Or.inl ⟨by first | rfl | trivial, by rw [Hst.out]; simp⟩), by first | rfl | trivial⟩
          case measure => simp [intOf]
        · go_wp2
          go_roundw
          case rel => exact ⟨Or.inr (Or.inl ⟨by first | rfl | trivial, by rw [Hst.out]; simp⟩), by first | rfl | trivial⟩
          case measure => simp [intOf]
    · obtain ⟨o, Ho⟩ : ∃ o, Hid (o = okT k a b 1) := ⟨_, Lib.hid rfl⟩
      have hst : okT k a b 2 = (okT k a b 1 && (decide (((1 : Nat) : Int) < ((sizeT k : Nat) : Int)) || numsT a b 1 == 0)) := rfl
      rw [← Ho.out, ← Hz.out, show numsT a b 1 = b from rfl] at hst
      have Hst := Lib.hid hst
      clear hst
      rw [← Ho.out]
      clear Ho
      cases o
      · go_wp2
        go_roundw
        case rel => exact ⟨Or.inr (Or.inr ⟨by first | rfl | trivial, by rw [Hst.out]; simp⟩), by first | rfl | trivial⟩
        case measure => simp [intOf]
      · rcases HZ.out with rfl | rfl | rfl
        · have hx : (b == 0) = true ∨ (b == 0) = false := by cases (b == 0) <;> simp
          rcases hx with hx | hx
          · go_wp2
            go_roundw
            case rel => exact ⟨Or.inr (Or.inr ⟨by first | rfl | trivial, by rw [Hst.out]; simp [hx]⟩), by first | rfl | trivial⟩
            case measure => simp [intOf]
          · go_wp2
            go_roundw
            case rel => exact ⟨Or.inr (Or.inr ⟨by first | rfl | trivial, by rw [Hst.out]; simp [hx]⟩), by first | rfl | trivial⟩
            case measure => simp [intOf]
        · have hx : (b == 0) = true ∨ (b == 0) = false := by cases (b == 0) <;> simp
          rcases hx with hx | hx
          · go_wp2
            go_roundw
            case rel => exact ⟨Or.inr (Or.inr ⟨by first | rfl | trivial, by rw [Hst.out]; simp [hx]⟩), by first | rfl | trivial⟩
            case measure => simp [intOf]
          · go_wp2
            go_roundw
            case rel => exact ⟨Or.inr (Or.inr ⟨by first | rfl | trivial, by rw [Hst.out]; simp [hx]⟩), by first | rfl | trivial⟩
            case measure => simp [intOf]
        · go_wp2
          go_roundw
          case rel => exact ⟨Or.inr (Or.inr ⟨by first | rfl | trivial, by rw [Hst.out]; simp⟩), by first | rfl | trivial⟩
          case measure => simp [intOf]
    · obtain ⟨o, Ho⟩ : ∃ o, Hid (o = okT k a b 2) := ⟨_, Lib.hid rfl⟩
      rw [← Ho.out]
      have FW : Calls Tryd.prog 23 #[.agg #[.string wd, .int .i64 z], .agg #[.int .i64 a, .int .i64 b]] wr fun e w' => e = .returned (.string (lineT (wordT k) (sizeT k) a b)) ∧ Below wr.heap.size wr w' := by
        rw [Hz.out, Hwd.out]
        exact fwrite_any (wordT k) (sizeT k) a b (sizeT_le k) ha hb (Nat.le_trans (wordT_le k) (by decide)) wr hE3
      have HF := Lib.hid FW
      clear FW
      cases o
      · go_wp2
        go_ret2
        exact ⟨by rw [(textT_no Ho.out.symm).1, (textT_no Ho.out.symm).2]; rfl, hbw3⟩
      · go_wp2_with (go_at_call 23; refine HF.out.mono ?_; rintro e1 w4 ⟨rfl, hb4⟩)
        go_ret2
        exact ⟨by rw [(textT_yes Ho.out.symm).1, (textT_yes Ho.out.symm).2]; rfl, hbw3.trans (hb4.mono (by have := hbw3.size; omega))⟩
end Go.Proofs.YtmadabecpgjpjaaDoor
