/- The law's own numerals are strconv.Itoa's. -/
import Derived.Test.YtmadabecpgjpjaaDoorBase
import Derived.Test.YtmadabecpgjpjaaDoorArea
import Derived.WalkSpells
import Derived.Laws.BytesArg
namespace Go.Proofs.YtmadabecpgjpjaaDoor
open Go.RowKit
def digB (m : Nat) : ByteArray := ⟨#[UInt8.ofNat (48 + m % 10)]⟩
theorem conv_dig (m : Nat) (w : World) : (convert 83 9 (.slice (some ⟨w.heap.size, 0, none⟩) 1 1)).run Tryd.prog (w.alloc (.cells #[.int .u8 (48 + (m : Int) % 10)] 5)) =
    .ok (.string (digB m)) (w.alloc (.cells #[.int .u8 (48 + (m : Int) % 10)] 5)) := by
  have h := run_convert_bytes_arg (P := Tryd.prog) (w.alloc (.cells #[.int .u8 (48 + (m : Int) % 10)] 5)) 83 5 Tryd.underlying83 Tryd.underlying5 w.heap.size 0 1 1 [48 + (m : Int) % 10] rfl
    (fun i hi => by obtain rfl : i = 0 := by omega
                    simp) 9 Tryd.underlying9
  rw [h]
  have e : (48 + (m : Int) % 10).toNat = 48 + m % 10 := by omega
  simp [strOfNums, digB, e]

theorem wrap_neg (n : Int) (h0 : -9223372036854775808 ≤ n) (hn : n < 0) : IntKind.u64.wrap (-IntKind.u64.wrap n) = (n.natAbs : Int) := by
  have e : IntKind.u64.wrap n = n + 18446744073709551616 := by simp only [IntKind.wrap, IntKind.signed, IntKind.bits]; simp; omega
  rw [e]
  simp only [IntKind.wrap, IntKind.signed, IntKind.bits]; simp; omega
theorem digB_list (m : Nat) (s : ByteArray) : (digB m ++ s).data.toList = UInt8.ofNat (48 + m % 10) :: s.data.toList := by
  simp [digB]
theorem bcat (a b : List UInt8) : ((⟨a.toArray⟩ : ByteArray) ++ (⟨b.toArray⟩ : ByteArray)) = ⟨(a ++ b).toArray⟩ := by
  apply ByteArray.ext
  simp
theorem digB_size (m : Nat) : (digB m).size = 1 := rfl
theorem dec_step {m : Nat} (h : ¬ m < 10) (s : ByteArray) (t : List UInt8) (hd : Lib.decDigits m ++ s.data.toList = t) : Lib.decDigits (m / 10) ++ (digB m ++ s).data.toList = t := by
  have e : Lib.decDigits m = Lib.decDigits (m / 10) ++ [UInt8.ofNat (48 + m % 10)] := by rw [Lib.decDigits, dif_neg h]
  rw [digB_list, ← hd, e]
  simp
theorem dec_last {m : Nat} (h : m < 10) (s : ByteArray) (t : List UInt8) (hd : Lib.decDigits m ++ s.data.toList = t) : digB m ++ s = ⟨t.toArray⟩ := by
  rw [Lib.decDigits, dif_pos h] at hd
  have e := digB_list m s
  rw [Nat.mod_eq_of_lt h] at e
  have e2 : (digB m ++ s).data.toList = t := by rw [e, ← hd]; rfl
  rw [← e2]
theorem dec_len (n m : Nat) (hn : n ≤ 18446744073709551615) (s : ByteArray) (hd : Lib.decDigits m ++ s.data.toList = Lib.decDigits n) : s.size ≤ 20 := by
  have h := congrArg List.length hd
  have := decDigits_len n (by omega)
  simp only [List.length_append, Array.length_toList] at h
  show s.data.size ≤ 20
  omega
set_option maxRecDepth 100000 in
set_option maxHeartbeats 400000 in
theorem digits_neg (n : Int) (h0 : -9223372036854775808 ≤ n) (h1 : n ≤ 9223372036854775807) (hn : n < 0) (w : World) :
    Calls Tryd.prog 35 #[.int .i64 n] w fun e w' => e = .returned (.string ⟨(Lib.itoa n).toArray⟩) ∧ Below w.heap.size w w' := by
  have he : Lib.itoa n = 45 :: Lib.decDigits n.natAbs := by rw [Lib.itoa, if_pos hn]
  rw [he]
  clear he
  go_enter Tryd.func35, Tryd.ntmps35
  go_wp2
  go_loopw [3, 4] (fun o r wr => ∃ (m : Nat) (s : ByteArray), m ≤ 9223372036854775808 ∧ o = .string s ∧ r = .int .u64 m ∧ Below w.heap.size w wr ∧ Lib.decDigits m ++ s.data.toList = Lib.decDigits n.natAbs)
    (fun _ r _ => (intOf r).toNat)
  case atStart =>
    exact ⟨n.natAbs, ByteArray.empty, by omega, rfl, by rw [wrap_neg n h0 hn], Below.refl _ _, by show Lib.decDigits _ ++ [] = _; simp⟩
  case round =>
    obtain ⟨m, s, hm, rfl, rfl, hb, hd⟩ := hrel
    have hz := dec_len n.natAbs m (by omega) s hd
    have hz1 : (digB m).size + s.size ≤ 21 := by rw [digB_size]; omega
    have hB := hb.size
    have Hd := Lib.hid hd
    clear hd
    have hk := conv_dig m wr
    by_cases h10 : m < 10
    · have hq : ((m : Int) / 10 == 0) = true := by rw [beq_iff_eq]; omega
      go_wp2
      go_ret
      have hl := dec_last h10 s _ Hd.out
      simp only [Array.getD_eq_getD_getElem?]
      refine ⟨?_, hb.alloc hB _⟩
      rw [hl]
      exact congrArg (fun x => Ending.returned (.string x)) (bcat [45] _)
    · have hq : ((m : Int) / 10 == 0) = false := by rw [beq_eq_false_iff_ne]; omega
      go_wp2
      go_roundw
      case rel => exact ⟨m / 10, digB m ++ s, by omega, rfl, by go_num, hb.alloc hB _, dec_step h10 s _ Hd.out⟩
      case measure => simp [intOf]; omega
set_option maxRecDepth 100000 in
set_option maxHeartbeats 400000 in
theorem digits_pos (n : Int) (h0 : -9223372036854775808 ≤ n) (h1 : n ≤ 9223372036854775807) (hn : ¬ n < 0) (w : World) :
    Calls Tryd.prog 35 #[.int .i64 n] w fun e w' => e = .returned (.string ⟨(Lib.itoa n).toArray⟩) ∧ Below w.heap.size w w' := by
  have he : Lib.itoa n = Lib.decDigits n.toNat := by rw [Lib.itoa, if_neg hn]
  rw [he]
  clear he
  go_enter Tryd.func35, Tryd.ntmps35
  go_wp2
  go_loopw [3, 4] (fun o r wr => ∃ (m : Nat) (s : ByteArray), m ≤ 9223372036854775808 ∧ o = .string s ∧ r = .int .u64 m ∧ Below w.heap.size w wr ∧ Lib.decDigits m ++ s.data.toList = Lib.decDigits n.toNat)
    (fun _ r _ => (intOf r).toNat)
  case atStart =>
    exact ⟨n.toNat, ByteArray.empty, by omega, rfl, by rw [Int.toNat_of_nonneg (by omega)], Below.refl _ _, by show Lib.decDigits _ ++ [] = _; simp⟩
  case round =>
    obtain ⟨m, s, hm, rfl, rfl, hb, hd⟩ := hrel
    have hz := dec_len n.toNat m (by omega) s hd
    have hz1 : (digB m).size + s.size ≤ 21 := by rw [digB_size]; omega
    have hB := hb.size
    have Hd := Lib.hid hd
    clear hd
    have hk := conv_dig m wr
    by_cases h10 : m < 10
    · have hq : ((m : Int) / 10 == 0) = true := by rw [beq_iff_eq]; omega
      go_wp2
      go_ret
      have hl := dec_last h10 s _ Hd.out
      simp only [Array.getD_eq_getD_getElem?]
      refine ⟨?_, hb.alloc hB _⟩
      rw [hl]
      simp
    · have hq : ((m : Int) / 10 == 0) = false := by rw [beq_eq_false_iff_ne]; omega
      go_wp2
      go_roundw
      case rel => exact ⟨m / 10, digB m ++ s, by omega, rfl, by go_num, hb.alloc hB _, dec_step h10 s _ Hd.out⟩
      case measure => simp [intOf]; omega
theorem digits_call (n : Int) (h0 : -9223372036854775808 ≤ n) (h1 : n ≤ 9223372036854775807) (w : World) :
    Calls Tryd.prog 35 #[.int .i64 n] w fun e w' => e = .returned (.string ⟨(Lib.itoa n).toArray⟩) ∧ Below w.heap.size w w' := by
  by_cases hn : n < 0
  · exact digits_neg n h0 h1 hn w
  · exact digits_pos n h0 h1 hn w
end Go.Proofs.YtmadabecpgjpjaaDoor
