/- The law's own comparison of two setups. -/
import Derived.Test.YtmadabecpgjpjaaDoorDeedA
namespace Go.Proofs.YtmadabecpgjpjaaDoor
open Go.RowKit

theorem IntsAt.cell {w : World} {p : Option Addr} {es : List Int} (h : IntsAt w p es) {k : Nat} (hk : k < es.length) : ∃ b o, p = some ⟨b, o, none⟩ ∧ w.cell? ⟨b, o + k, none⟩ = some (.int .i64 (es.getD k 0)) := by
  rcases h with h | ⟨b, o, hp, _, hc⟩
  · subst h; simp at hk
  · exact ⟨b, o, hp, hc k hk⟩

/-- The six numbers are alike. -/
def alike6 (f g : Nat → Int) : Bool := f 0 == g 0 && f 1 == g 1 && f 2 == g 2 && f 3 == g 3 && f 4 == g 4 && f 5 == g 5

set_option maxRecDepth 100000 in
set_option maxHeartbeats 1600000 in
theorem same_loop (f g : Nat → Int) (p q : Option Addr) (es fs : List Int) (c d : Nat) (w : World) (hes : IntsAt w p es) (hfs : IntsAt w q fs) (hn : es.length ≤ 9223372036854775807) (_hm : fs.length ≤ 9223372036854775807)
    (r0 : (f 0 != g 0) = false) (r1 : (f 1 != g 1) = false) (r2 : (f 2 != g 2) = false) (r3 : (f 3 != g 3) = false) (r4 : (f 4 != g 4) = false) (r5 : (f 5 != g 5) = false) (hl : es.length = fs.length) :
    Calls Tryd.prog 19 #[.agg #[.int .i64 (f 0), .int .i64 (f 1), .int .i64 (f 2), .int .i64 (f 3), .int .i64 (f 4), .int .i64 (f 5), .slice p es.length c], .agg #[.int .i64 (g 0), .int .i64 (g 1), .int .i64 (g 2), .int .i64 (g 3), .int .i64 (g 4), .int .i64 (g 5), .slice q fs.length d]] w fun e' w' =>
      e' = .returned (.bool (es == fs)) ∧ Below w.heap.size w w' := by
  have hli : ((es.length : Int) != (fs.length : Int)) = false := by rw [hl]; simp
  have Hl := Lib.hid hl
  clear hl
  go_enter Tryd.func19, Tryd.ntmps19
  go_wp2
  generalize hw2 : (w.alloc (.cells #[.int .i64 (f 0), .int .i64 (f 1), .int .i64 (f 2), .int .i64 (f 3), .int .i64 (f 4), .int .i64 (f 5), .slice p es.length c] 41)).alloc (.cells #[.int .i64 (g 0), .int .i64 (g 1), .int .i64 (g 2), .int .i64 (g 3), .int .i64 (g 4), .int .i64 (g 5), .slice q fs.length d] 41) = w2
  have hb : Below w.heap.size w w2 := by rw [← hw2]; exact ((Below.refl _ w).alloc (Nat.le_refl _) _).alloc (by simp) _
  have c1 : ∀ k, (w2.drewN k).cell? ⟨w.heap.size, 6, none⟩ = some (.slice p es.length c) := fun k => by rw [← hw2]; simp
  have c2 : ∀ k, (w2.drewN k).cell? ⟨w.heap.size + 1, 6, none⟩ = some (.slice q fs.length d) := fun k => by rw [← hw2]; simp
  have hes2 := hes.below hb (Nat.le_refl _)
  have hfs2 := hfs.below hb (Nat.le_refl _)
  clear hw2 hes hfs
  go_loopw [5] (fun i wr => ∃ k n : Nat, k ≤ es.length ∧ i = .int .i64 k ∧ wr = w2.drewN n ∧ es.take k = fs.take k)
    (fun i _ => es.length - (intOf i).toNat)
  case atStart => exact ⟨0, 0, Nat.zero_le _, rfl, rfl, by simp⟩
  case round =>
    obtain ⟨k, n, hk, rfl, rfl, ht⟩ := hrel
    have Ht := Lib.hid ht
    clear ht
    have d1 : w2.cell? ⟨w.heap.size, 6, none⟩ = some (.slice p es.length c) := c1 0
    have d2 : w2.cell? ⟨w.heap.size + 1, 6, none⟩ = some (.slice q fs.length d) := c2 0
    clear c1 c2
    by_cases hlt : k < es.length
    · have hlt2 : k < fs.length := by have := Hl.out; omega
      obtain ⟨b1, o1, rfl, h1⟩ := hes2.cell hlt
      obtain ⟨b2, o2, rfl, h2⟩ := hfs2.cell hlt2
      obtain ⟨x, Hx⟩ : ∃ x, Hid (x = es.getD k 0) := ⟨_, Lib.hid rfl⟩
      obtain ⟨y, Hy⟩ : ∃ y, Hid (y = fs.getD k 0) := ⟨_, Lib.hid rfl⟩
      rw [← Hx.out] at h1
      rw [← Hy.out] at h2
      have k0 : (0 : Int) ≤ (k : Int) := Int.natCast_nonneg _
      have k1 : (k : Int) < (es.length : Int) := by omega
      have k2 : (k : Int) < (fs.length : Int) := by omega
      have hd : decide ((k : Int) < (es.length : Int)) = true := by simp; omega
      clear hes2 hfs2
      have exy : (x == y) = true ∨ (x == y) = false := by cases (x == y) <;> simp
      rcases exy with exy | exy
      · go_upto_region 6 with fail
        go_quiet (fail)
        go_wp2
        go_roundw
        case rel => exact ⟨k + 1, n + nq, by omega, by go_num, rfl, by
          have e : x = y := by simpa using exy
          rw [Hx.out, Hy.out] at e
          simp only [List.getD, List.getElem?_eq_getElem hlt, List.getElem?_eq_getElem hlt2, Option.getD_some] at e
          rw [List.take_succ_eq_append_getElem hlt, List.take_succ_eq_append_getElem hlt2, Ht.out, e]⟩
        case measure => simp [intOf]; omega
      · go_upto_region 6 with fail
        go_quiet (fail)
        go_wp2
        go_ret
        refine ⟨?_, hb.trans (below_drewN (below_drewN (Below.refl _ _) n) nq)⟩
        have e : x ≠ y := by simpa using exy
        have hne : (es == fs) = false := by
          rw [beq_eq_false_iff_ne]
          intro h
          apply e
          rw [Hx.out, Hy.out, h]
        rw [hne]
        rfl
    · obtain rfl : k = es.length := by omega
      have hd : decide ((es.length : Int) < (es.length : Int)) = false := by simp
      clear hes2 hfs2
      go_wp2
      go_ret
      refine ⟨?_, hb.trans (below_drewN (Below.refl _ _) n)⟩
      have h1 := Ht.out
      rw [List.take_length, Hl.out, List.take_length] at h1
      rw [h1]
      simp

set_option maxRecDepth 100000 in
set_option maxHeartbeats 1600000 in
theorem same_any (f g : Nat → Int) (p q : Option Addr) (es fs : List Int) (c d : Nat) (w : World) (hes : IntsAt w p es) (hfs : IntsAt w q fs) (hn : es.length ≤ 9223372036854775807) (hm : fs.length ≤ 9223372036854775807) :
    Calls Tryd.prog 19 #[.agg (scells f (.slice p es.length c)), .agg (scells g (.slice q fs.length d))] w fun e' w' =>
      e' = .returned (.bool (alike6 f g && (es.length == fs.length && es == fs))) ∧ Below w.heap.size w w' := by
  have hz : ∀ (u : World) o1 o2, Below u.heap.size u ((u.alloc o1).alloc o2) := fun u o1 o2 => ((Below.refl _ u).alloc (Nat.le_refl _) _).alloc (by simp) _
  have Hz := Lib.hid hz
  clear hz
  unfold scells alike6
  rw [Bool.and_assoc, Bool.and_assoc, Bool.and_assoc, Bool.and_assoc, Bool.and_assoc]
  have e0 : (f 0 == g 0) = false ∨ (f 0 == g 0) = true := by cases (f 0 == g 0) <;> simp
  rcases e0 with q0 | q0
  · rw [q0]
    simp only [Bool.false_and]
    have r0 : (f 0 != g 0) = true := by rw [bne, q0]; rfl
    clear q0
    go_enter Tryd.func19, Tryd.ntmps19
    go_wp2
    go_ret
    exact ⟨rfl, Hz.out _ _ _⟩
  rw [q0]
  simp only [Bool.true_and]
  have r0 : (f 0 != g 0) = false := by rw [bne, q0]; rfl
  clear q0
  have e1 : (f 1 == g 1) = false ∨ (f 1 == g 1) = true := by cases (f 1 == g 1) <;> simp
  rcases e1 with q1 | q1
  · rw [q1]
    simp only [Bool.false_and]
    have r1 : (f 1 != g 1) = true := by rw [bne, q1]; rfl
    clear q1
    go_enter Tryd.func19, Tryd.ntmps19
    go_wp2
    go_ret
    exact ⟨rfl, Hz.out _ _ _⟩
  rw [q1]
  simp only [Bool.true_and]
  have r1 : (f 1 != g 1) = false := by rw [bne, q1]; rfl
  clear q1
  have e2 : (f 2 == g 2) = false ∨ (f 2 == g 2) = true := by cases (f 2 == g 2) <;> simp
  rcases e2 with q2 | q2
  · rw [q2]
    simp only [Bool.false_and]
    have r2 : (f 2 != g 2) = true := by rw [bne, q2]; rfl
    clear q2
    go_enter Tryd.func19, Tryd.ntmps19
    go_wp2
    go_ret
    exact ⟨rfl, Hz.out _ _ _⟩
  rw [q2]
  simp only [Bool.true_and]
  have r2 : (f 2 != g 2) = false := by rw [bne, q2]; rfl
  clear q2
  have e3 : (f 3 == g 3) = false ∨ (f 3 == g 3) = true := by cases (f 3 == g 3) <;> simp
  rcases e3 with q3 | q3
  · rw [q3]
    simp only [Bool.false_and]
    have r3 : (f 3 != g 3) = true := by rw [bne, q3]; rfl
    clear q3
    go_enter Tryd.func19, Tryd.ntmps19
    go_wp2
    go_ret
    exact ⟨rfl, Hz.out _ _ _⟩
  rw [q3]
  simp only [Bool.true_and]
  have r3 : (f 3 != g 3) = false := by rw [bne, q3]; rfl
  clear q3
  have e4 : (f 4 == g 4) = false ∨ (f 4 == g 4) = true := by cases (f 4 == g 4) <;> simp
  rcases e4 with q4 | q4
  · rw [q4]
    simp only [Bool.false_and]
    have r4 : (f 4 != g 4) = true := by rw [bne, q4]; rfl
    clear q4
    go_enter Tryd.func19, Tryd.ntmps19
    go_wp2
    go_ret
    exact ⟨rfl, Hz.out _ _ _⟩
  rw [q4]
  simp only [Bool.true_and]
  have r4 : (f 4 != g 4) = false := by rw [bne, q4]; rfl
  clear q4
  have e5 : (f 5 == g 5) = false ∨ (f 5 == g 5) = true := by cases (f 5 == g 5) <;> simp
  rcases e5 with q5 | q5
  · rw [q5]
    simp only [Bool.false_and]
    have r5 : (f 5 != g 5) = true := by rw [bne, q5]; rfl
    clear q5
    go_enter Tryd.func19, Tryd.ntmps19
    go_wp2
    go_ret
    exact ⟨rfl, Hz.out _ _ _⟩
  rw [q5]
  simp only [Bool.true_and]
  have r5 : (f 5 != g 5) = false := by rw [bne, q5]; rfl
  clear q5
  by_cases hl : es.length = fs.length
  · rw [show (es.length == fs.length) = true from by rw [hl]; simp]
    simp only [Bool.true_and]
    exact same_loop f g p q es fs c d w hes hfs hn hm r0 r1 r2 r3 r4 r5 hl
  · rw [show (es.length == fs.length) = false from by rw [beq_eq_false_iff_ne]; exact hl]
    have hli : ((es.length : Int) != (fs.length : Int)) = true := by rw [bne_iff_ne]; omega
    simp only [Bool.false_and]
    clear hl
    go_enter Tryd.func19, Tryd.ntmps19
    go_wp2
    go_ret
    exact ⟨rfl, Hz.out _ _ _⟩
end Go.Proofs.YtmadabecpgjpjaaDoor
