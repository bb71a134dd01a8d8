/- The law DeedReads: its walk. -/
import Derived.Test.YtmadabecpgjpjaaDoorAwakeA
namespace Go.Proofs.YtmadabecpgjpjaaDoor
open Go.RowKit

theorem read_none (s : ByteArray) (w : World) (hE : Env w) (hs : s.size ≤ 1048576) (h : readS (wordsOf s) = none) :
    Calls Tryd.prog 17 #[.string s] w fun e w' => e = .returned (.tuple #[.agg #[.int .i64 0, .int .i64 0, .int .i64 0, .int .i64 0, .int .i64 0, .int .i64 0, .slice none 0 0], .int .i64 5]) ∧ Below w.heap.size w w' := by
  refine (read_any s w hE hs).mono ?_
  intro e w' hp
  rw [h] at hp
  exact ⟨hp.2, hp.1⟩
theorem read_some (s : ByteArray) (f : Nat → Int) (es : List Int) (w : World) (hE : Env w) (hs : s.size ≤ 1048576) (h : readS (wordsOf s) = some (f, es)) :
    Calls Tryd.prog 17 #[.string s] w fun e w' => ∃ p c, e = .returned (.tuple #[.agg #[.int .i64 (f 0), .int .i64 (f 1), .int .i64 (f 2), .int .i64 (f 3), .int .i64 (f 4), .int .i64 (f 5), .slice p es.length c], .int .i64 0]) ∧ IntsAt w' p es ∧ Below w.heap.size w w' := by
  refine (read_any s w hE hs).mono ?_
  intro e w' hp
  rw [h] at hp
  obtain ⟨hb, p, c, he, hi⟩ := hp
  exact ⟨p, c, he, hi, hb⟩
/-- Two empty setups. -/
theorem same_none (w : World) : Calls Tryd.prog 19 #[.agg #[.int .i64 0, .int .i64 0, .int .i64 0, .int .i64 0, .int .i64 0, .int .i64 0, .slice none 0 0], .agg #[.int .i64 0, .int .i64 0, .int .i64 0, .int .i64 0, .int .i64 0, .int .i64 0, .slice none 0 0]] w fun e w' => e = .returned (.bool true) ∧ Below w.heap.size w w' :=
  same_self (fun _ => 0) none none [] 0 0 w (.inl rfl) (.inl rfl) (by decide)

set_option maxRecDepth 100000 in
set_option maxHeartbeats 800000 in
theorem reads_none (s : ByteArray) (w : World) (hE : Env w) (hs : s.size ≤ 1048576) (h : readS (wordsOf s) = none) :
    Calls Tryd.prog 7 #[.string s] w fun e w' => e = .returned (.bool true) ∧ Below w.heap.size w w' := by
  have Hs := Lib.hid hs
  have Hh := Lib.hid h
  clear hs h
  go_enter Tryd.func7, Tryd.ntmps7
  go_upto_region 2 with (go_at_call 17; refine (read_none s _ hE Hs.out Hh.out).mono ?_; rintro e1 w1 ⟨rfl, hb1⟩; have hE1 := hE.below hb1 hE.size)
  generalize hw2 : w1.alloc _ = w2
  have hb2 : Below w1.heap.size w1 w2 := by rw [← hw2]; exact (Below.refl _ _).alloc (Nat.le_refl _) _
  have hg : w2.heap[w1.heap.size]? = some (.cells (scells (fun _ => 0) (.slice none 0 0)) 41 (0, 0)) := by rw [← hw2]; exact first_new w1 _
  have hE2 := hE1.below hb2 hE1.size
  have l1 := (Array.getElem?_eq_some_iff.1 hg).1
  clear hw2
  go_wp2_with (first
    | (go_at_call 16; refine (awake_any _ hE2).mono ?_; rintro e5 w5 ⟨rfl, hb6⟩; have hg6 := (hb6.block _ l1).trans hg; obtain ⟨c0, c1, c2, c3, c4, c5, c6⟩ := cells7 hg6)
    | (go_at_call 19; refine (same_none _).mono ?_; rintro e7 w7 ⟨rfl, hb8⟩))
  go_ret
  have z1 := hb1.size
  have z2 := hb2.size
  exact ⟨rfl, ((hb1.trans (hb2.mono z1)).trans (hb6.mono (Nat.le_trans z1 z2))).trans (hb8.mono (Nat.le_trans z1 (Nat.le_trans z2 hb6.size)))⟩

set_option maxRecDepth 100000 in
set_option maxHeartbeats 800000 in
theorem reads_some (s : ByteArray) (f : Nat → Int) (es : List Int) (w : World) (hE : Env w) (hs : s.size ≤ 1048576) (h : readS (wordsOf s) = some (f, es)) :
    Calls Tryd.prog 7 #[.string s] w fun e w' => e = .returned (.bool true) ∧ Below w.heap.size w w' := by
  obtain ⟨hws, hn, hf, h64⟩ := readS_sound h
  have hl := line_of_words hws
  have hq : ((lineB f es).toList == s.toList) = true := by rw [← hl]; exact beq_self_eq_true _
  have hd : decide ((es.length : Int) ≤ (64 : Int)) = true := by simp; omega
  have hle : (es.length : Int) ≤ (64 : Int) := by omega
  have hM : es.length ≤ 1048576 := Nat.le_trans hn (by decide)
  have HM := Lib.hid hM
  have Hs := Lib.hid hs
  have Hh := Lib.hid h
  clear hs h hws hl hn hM
  go_enter Tryd.func7, Tryd.ntmps7
  go_upto_region 2 with (go_at_call 17; refine (read_some s f es _ hE Hs.out Hh.out).mono ?_; rintro e1 w1 ⟨p, c, rfl, hi1, hb1⟩; have hE1 := hE.below hb1 hE.size)
  generalize hw2 : w1.alloc _ = w2
  have hb2 : Below w1.heap.size w1 w2 := by rw [← hw2]; exact (Below.refl _ _).alloc (Nat.le_refl _) _
  have hg : w2.heap[w1.heap.size]? = some (.cells (scells f (.slice p es.length c)) 41 (0, 0)) := by rw [← hw2]; exact first_new w1 _
  have hE2 := hE1.below hb2 hE1.size
  have hi2 := hi1.below hb2 (Nat.le_refl _)
  have l1 := (Array.getElem?_eq_some_iff.1 hg).1
  clear hw2 hi1
  go_wp2_with (first
    | (go_at_call 16; refine (awake_any _ hE2).mono ?_; rintro e5 w5 ⟨rfl, hb6⟩; have hg6 := (hb6.block _ l1).trans hg; have hi6 := hi2.below hb6 (Nat.le_refl _); obtain ⟨c0, c1, c2, c3, c4, c5, c6⟩ := cells7 hg6)
    | (go_at_call 18; refine (line_line f hf _ es c _ hi6 h64 HM.out).mono ?_; rintro e7 w7 ⟨rfl, hb8⟩))
  go_ret
  have z1 := hb1.size
  have z2 := hb2.size
  exact ⟨rfl, ((hb1.trans (hb2.mono z1)).trans (hb6.mono (Nat.le_trans z1 z2))).trans (hb8.mono (Nat.le_trans z1 (Nat.le_trans z2 hb6.size)))⟩

theorem reads_any (s : ByteArray) (w : World) (hE : Env w) (hs : s.size ≤ 1048576) :
    Calls Tryd.prog 7 #[.string s] w fun e w' => e = .returned (.bool true) ∧ Below w.heap.size w w' := by
  cases h : readS (wordsOf s) with
  | none => exact reads_none s w hE hs h
  | some fe => exact reads_some s fe.1 fe.2 w hE hs h
end Go.Proofs.YtmadabecpgjpjaaDoor
