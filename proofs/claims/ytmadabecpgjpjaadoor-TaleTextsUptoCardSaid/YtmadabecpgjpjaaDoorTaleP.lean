/- tale.plain. -/
import Derived.Test.YtmadabecpgjpjaaDoorBase
import Derived.Test.YtmadabecpgjpjaaDoorMath
import Derived.Lib.OthersKept
namespace Go.Proofs.YtmadabecpgjpjaaDoor
open Go.RowKit

/-- A text of digits and '-' alone, not empty. -/
def PlainA (s : ByteArray) : Prop := s.size ≠ 0 ∧ ∀ (j : Nat) (h : j < s.size), (s[j]'h).toNat = 45 ∨ (48 ≤ (s[j]'h).toNat ∧ (s[j]'h).toNat ≤ 57)
theorem PlainA.rune {s : ByteArray} (h : PlainA s) {pos : Nat} (hp : pos < s.size) : (Utf8.decode s pos).1 = 45 ∨ (48 ≤ (Utf8.decode s pos).1 ∧ (Utf8.decode s pos).1 ≤ 57) := by
  have := h.2 pos hp
  rw [decode_ascii s pos hp (by omega)]
  exact this
theorem width_pos (s : ByteArray) (pos : Nat) (h : pos < s.size) : 1 ≤ (Utf8.decode s pos).2 := by
  by_cases ha : (s[pos]'h).toNat < 128
  · rw [decode_ascii s pos h ha]
    exact Nat.le_refl _
  · exact (decode_high s pos h (by omega)).2

set_option maxRecDepth 100000 in
set_option maxHeartbeats 1600000 in
theorem plain_any (s : ByteArray) (w : World) :
    Calls Tryd.prog 27 #[.string s] w fun e w' => (∃ b, e = .returned (.bool b) ∧ (PlainA s → b = true)) ∧ Below w.heap.size w w' := by
  go_enter Tryd.func27, Tryd.ntmps27
  go_wp2
  go_loopw [] (fun wr => ∃ pos : Nat, wr.heap[w.heap.size]? = some (.stringIter s pos) ∧ Below w.heap.size w wr) (fun wr => s.size - wr.iterPos w.heap.size)
  case atStart =>
    refine ⟨0, ?_, (Below.refl _ w).alloc (Nat.le_refl _) _⟩
    have := World.iter_heap w s 0
    simpa using this
  case round =>
    obtain ⟨pos, hit, hbw⟩ := hrel
    by_cases hp : pos < s.size
    · have hnx : ∀ ty, (Instr.next (.pointer (some ⟨w.heap.size, 0, none⟩)) true ty).run Tryd.prog wr = _ := fun ty => Lib.run_next_any_at wr w.heap.size s pos ty hit hp
      have hwd := width_pos s pos hp
      have hpr : PlainA s → (Utf8.decode s pos).1 = 45 ∨ (48 ≤ (Utf8.decode s pos).1 ∧ (Utf8.decode s pos).1 ≤ 57) := fun h => h.rune hp
      have hit2 := Lib.iterAt_heap wr w.heap.size s pos (pos + (Utf8.decode s pos).2) hit
      have hbw2 := Lib.below_iterAt hbw (k := w.heap.size) (Nat.le_refl _) s (pos + (Utf8.decode s pos).2)
      obtain ⟨c, Hc⟩ : ∃ c, Hid (c = (Utf8.decode s pos).1) := ⟨_, Lib.hid rfl⟩
      rw [← Hc.out] at hnx hpr
      generalize hw2 : wr.iterAt w.heap.size s (pos + (Utf8.decode s pos).2) = w2 at hnx hit2 hbw2
      have Hp := Lib.hid hpr
      have Hit := Lib.hid hit
      have Hd := Lib.hid hwd
      have Hit2 := Lib.hid hit2
      clear hpr hit hw2 hwd hit2
      rcases Nat.lt_trichotomy c 45 with h | h | h
      · have e1 : ((c : Int) != 45) = true := by simp; omega
        have e2 : decide ((c : Int) < 48) = true := by simp; omega
        go_wp2
        go_ret
        exact ⟨⟨false, rfl, fun q => by have := Hp.out q; omega⟩, hbw2⟩
      · have e1 : ((c : Int) != 45) = false := by simp; omega
        go_wp2
        go_roundw
        case rel => exact ⟨_, Hit2.out, hbw2⟩
        case measure => simp only [World.iterPos, Hit2.out, Hit.out]; have := Hd.out; omega
      · have e1 : ((c : Int) != 45) = true := by simp; omega
        by_cases h2 : c < 48
        · have e2 : decide ((c : Int) < 48) = true := by simp; omega
          go_wp2
          go_ret
          exact ⟨⟨false, rfl, fun q => by have := Hp.out q; omega⟩, hbw2⟩
        · have e2 : decide ((c : Int) < 48) = false := by simp; omega
          by_cases h3 : 57 < c
          · have e3 : decide ((57 : Int) < (c : Int)) = true := by simp; omega
            go_wp2
            go_ret
            exact ⟨⟨false, rfl, fun q => by have := Hp.out q; omega⟩, hbw2⟩
          · have e3 : decide ((57 : Int) < (c : Int)) = false := by simp; omega
            go_wp2
            go_roundw
            case rel => exact ⟨_, Hit2.out, hbw2⟩
            case measure => simp only [World.iterPos, Hit2.out, Hit.out]; have := Hd.out; omega
    · have hnx : ∀ ty, (Instr.next (.pointer (some ⟨w.heap.size, 0, none⟩)) true ty).run Tryd.prog wr = _ := fun ty => Lib.run_next_end_at wr w.heap.size s pos ty hit hp
      go_wp2
      go_ret
      refine ⟨⟨_, rfl, fun q => ?_⟩, hbw⟩
      rw [Lib.toList_data]
      cases hh : s.data.toList with
      | nil => exact absurd (show s.size = 0 by show s.data.size = 0; rw [← Array.length_toList, hh]; rfl) q.1
      | cons => rfl

theorem plainA_digits {l : List UInt8} (h0 : l ≠ []) (h : ∀ c ∈ l, c.toNat = 45 ∨ isDig c) : PlainA ⟨l.toArray⟩ := by
  refine ⟨?_, fun j hj => ?_⟩
  · show l.toArray.size ≠ 0
    simpa using h0
  · have hj' : j < l.length := by simpa using (show j < l.toArray.size from hj)
    have e : (ByteArray.mk l.toArray)[j]'hj = l[j]'hj' := by simp [ByteArray.getElem_eq_getElem_data]
    rw [e]
    exact h _ (List.getElem_mem hj')
theorem plain_itoa (n : Int) : PlainA ⟨(Lib.itoa n).toArray⟩ := plainA_digits (itoa_ne n) (itoa_signs n)
end Go.Proofs.YtmadabecpgjpjaaDoor
