/- The numerals of offertorylaw26's own law are strconv.Itoa's. -/
import Derived.Test.YtmadabecpgjpjaaDoorDigA
namespace Go.Proofs.YtmadabecpgjpjaaDoor
open Go.RowKit

set_option maxRecDepth 100000 in
set_option maxHeartbeats 400000 in
theorem digits26_neg (n : Int) (h0 : -9223372036854775808 ≤ n) (h1 : n ≤ 9223372036854775807) (hn : n < 0) (w : World) :
    Calls Tryd.prog 24 #[.int .i64 n] w fun e w' => e = .returned (.string ⟨(Lib.itoa n).toArray⟩) ∧ Below w.heap.size w w' := by
  have he : Lib.itoa n = 45 :: Lib.decDigits n.natAbs := by rw [Lib.itoa, if_pos hn]
  rw [he]
  clear he
  go_enter Tryd.func24, Tryd.ntmps24
  go_wp2
  go_loopw [3, 4] (fun o r wr => ∃ (m : Nat) (s : ByteArray), m ≤ 9223372036854775808 ∧ o = .string s ∧ r = .int .u64 m ∧ Below w.heap.size w wr ∧ Lib.decDigits m ++ s.data.toList = Lib.decDigits n.natAbs)
    (fun _ r _ => (intOf r).toNat)
  case atStart =>
    exact ⟨n.natAbs, ByteArray.empty, by omega, rfl, by rw [wrap_neg n h0 hn], Below.refl _ _, by show Lib.decDigits _ ++ [] = _; simp⟩
  case round =>
    obtain ⟨m, s, hm, rfl, rfl, hb, hd⟩ := hrel
    have hz := dec_len n.natAbs m (by omega) s hd
    have hz1 : (digB m).size + s.size ≤ 21 := by rw [digB_size]; omega
    have hB := hb.size
    have Hd := Lib.hid hd
    clear hd
    have hk := conv_dig m wr
    by_cases h10 : m < 10
    · have hq : ((m : Int) / 10 == 0) = true := by rw [beq_iff_eq]; omega
      go_wp2
      go_ret
      have hl := dec_last h10 s _ Hd.out
      simp only [Array.getD_eq_getD_getElem?]
      refine ⟨?_, hb.alloc hB _⟩
      rw [hl]
      exact congrArg (fun x => Ending.returned (.string x)) (bcat [45] _)
    · have hq : ((m : Int) / 10 == 0) = false := by rw [beq_eq_false_iff_ne]; omega
      go_wp2
      go_roundw
      case rel => exact ⟨m / 10, digB m ++ s, by omega, rfl, by go_num, hb.alloc hB _, dec_step h10 s _ Hd.out⟩
      case measure => simp [intOf]; omega
set_option maxRecDepth 100000 in
set_option maxHeartbeats 400000 in
theorem digits26_pos (n : Int) (h0 : -9223372036854775808 ≤ n) (h1 : n ≤ 9223372036854775807) (hn : ¬ n < 0) (w : World) :
    Calls Tryd.prog 24 #[.int .i64 n] w fun e w' => e = .returned (.string ⟨(Lib.itoa n).toArray⟩) ∧ Below w.heap.size w w' := by
  have he : Lib.itoa n = Lib.decDigits n.toNat := by rw [Lib.itoa, if_neg hn]
  rw [he]
  clear he
  go_enter Tryd.func24, Tryd.ntmps24
  go_wp2
  go_loopw [3, 4] (fun o r wr => ∃ (m : Nat) (s : ByteArray), m ≤ 9223372036854775808 ∧ o = .string s ∧ r = .int .u64 m ∧ Below w.heap.size w wr ∧ Lib.decDigits m ++ s.data.toList = Lib.decDigits n.toNat)
    (fun _ r _ => (intOf r).toNat)
  case atStart =>
    exact ⟨n.toNat, ByteArray.empty, by omega, rfl, by rw [Int.toNat_of_nonneg (by omega)], Below.refl _ _, by show Lib.decDigits _ ++ [] = _; simp⟩
  case round =>
    obtain ⟨m, s, hm, rfl, rfl, hb, hd⟩ := hrel
    have hz := dec_len n.toNat m (by omega) s hd
    have hz1 : (digB m).size + s.size ≤ 21 := by rw [digB_size]; omega
    have hB := hb.size
    have Hd := Lib.hid hd
    clear hd
    have hk := conv_dig m wr
    by_cases h10 : m < 10
    · have hq : ((m : Int) / 10 == 0) = true := by rw [beq_iff_eq]; omega
      go_wp2
      go_ret
      have hl := dec_last h10 s _ Hd.out
      simp only [Array.getD_eq_getD_getElem?]
      refine ⟨?_, hb.alloc hB _⟩
      rw [hl]
      simp
    · have hq : ((m : Int) / 10 == 0) = false := by rw [beq_eq_false_iff_ne]; omega
      go_wp2
      go_roundw
      case rel => exact ⟨m / 10, digB m ++ s, by omega, rfl, by go_num, hb.alloc hB _, dec_step h10 s _ Hd.out⟩
      case measure => simp [intOf]; omega
theorem digits26_call (n : Int) (h0 : -9223372036854775808 ≤ n) (h1 : n ≤ 9223372036854775807) (w : World) :
    Calls Tryd.prog 24 #[.int .i64 n] w fun e w' => e = .returned (.string ⟨(Lib.itoa n).toArray⟩) ∧ Below w.heap.size w w' := by
  by_cases hn : n < 0
  · exact digits26_neg n h0 h1 hn w
  · exact digits26_pos n h0 h1 hn w
end Go.Proofs.YtmadabecpgjpjaaDoor
