/- deed.Same. -/
import Derived.Test.YtmadabecpgjpjaaDoorSameA
import Derived.Test.YtmadabecpgjpjaaDoorDeedR
namespace Go.Proofs.YtmadabecpgjpjaaDoor
open Go.RowKit

set_option maxRecDepth 100000 in
set_option maxHeartbeats 800000 in
theorem eq_any (s t : ByteArray) (b1 o1 b2 o2 : Nat) (x y : Int) (w : World) (h1 : w.cell? ⟨b1, o1, none⟩ = some (.int .i64 x)) (h2 : w.cell? ⟨b2, o2, none⟩ = some (.int .i64 y)) :
    Calls Tryd.prog 38 #[.agg #[.string s, .pointer (some ⟨b1, o1, none⟩)], .agg #[.string t, .pointer (some ⟨b2, o2, none⟩)]] w fun e w' => e = .returned (.bool (x == y)) ∧ Below w.heap.size w w' := by
  have l1 := World.block_lt_of_cell? w _ h1
  have l2 := World.block_lt_of_cell? w _ h2
  go_enter Tryd.func38, Tryd.ntmps38
  go_wp2
  generalize hw2 : (w.alloc (.cells #[.string s, .pointer (some ⟨b1, o1, none⟩)] 72)).alloc (.cells #[.string t, .pointer (some ⟨b2, o2, none⟩)] 72) = w2
  have hb : Below w.heap.size w w2 := by rw [← hw2]; exact ((Below.refl _ w).alloc (Nat.le_refl _) _).alloc (by simp) _
  have c1 : w2.cell? ⟨w.heap.size, 1, none⟩ = some (.pointer (some ⟨b1, o1, none⟩)) := by rw [← hw2]; simp
  have c2 : w2.cell? ⟨w.heap.size + 1, 1, none⟩ = some (.pointer (some ⟨b2, o2, none⟩)) := by rw [← hw2]; simp
  have d1 : w2.cell? ⟨b1, o1, none⟩ = some (.int .i64 x) := (hb.cell (p := ⟨b1, o1, none⟩) l1).trans h1
  have d2 : w2.cell? ⟨b2, o2, none⟩ = some (.int .i64 y) := (hb.cell (p := ⟨b2, o2, none⟩) l2).trans h2
  clear hw2 h1 h2 l1 l2
  go_quiet (fail)
  go_wp2
  go_ret
  exact ⟨rfl, hb.trans (below_drewN (Below.refl _ _) nq)⟩

/-- All of the first k numbers are alike. -/
def alikeN (f g : Nat → Int) : Nat → Bool
  | 0 => true
  | k + 1 => alikeN f g k && (f k == g k)
theorem alikeN_six (f g : Nat → Int) : alikeN f g 6 = alike6 f g := by simp [alikeN, alike6]
theorem alikeN_false {f g : Nat → Int} {k : Nat} (h : alikeN f g (k + 1) = false) : ∀ d, alikeN f g (k + 1 + d) = false
  | 0 => h
  | d + 1 => by show (alikeN f g (k + 1 + d) && _) = false; rw [alikeN_false h d]; rfl

set_option maxRecDepth 100000 in
set_option maxHeartbeats 800000 in
theorem func_any (f g : Nat → Int) (sa sb : Value) (a b fa fb : Nat) (w : World) (ha : w.heap[a]? = some (.cells (scells f sa) 41 (0, 0))) (hb : w.heap[b]? = some (.cells (scells g sb) 41 (0, 0)))
    (hfa : w.heap[fa]? = some (.cells (fcells a) 72 (0, 0))) (hfb : w.heap[fb]? = some (.cells (fcells b) 72 (0, 0))) :
    Calls Tryd.prog 37 #[.slice (some ⟨fa, 0, none⟩) 6 6, .slice (some ⟨fb, 0, none⟩) 6 6, .func (.func 38) #[] #[]] w fun e w' => e = .returned (.bool (alike6 f g)) ∧ Below w.heap.size w w' := by
  have la := (Array.getElem?_eq_some_iff.1 ha).1
  have lb := (Array.getElem?_eq_some_iff.1 hb).1
  have lfa := (Array.getElem?_eq_some_iff.1 hfa).1
  have lfb := (Array.getElem?_eq_some_iff.1 hfb).1
  have Ha := Lib.hid ha
  have Hb := Lib.hid hb
  have Hfa := Lib.hid hfa
  have Hfb := Lib.hid hfb
  clear ha hb hfa hfb
  go_enter Tryd.func37, Tryd.ntmps37
  go_wp2
  go_loopw [17] (fun i wr => ∃ k : Nat, k ≤ 6 ∧ i = .int .i64 k ∧ Below w.heap.size w wr ∧ alikeN f g k = true)
    (fun i _ => 6 - (intOf i).toNat)
  case atStart => exact ⟨0, by omega, rfl, Below.refl _ _, rfl⟩
  case round =>
    obtain ⟨k, hk, rfl, hr, hal⟩ := hrel
    have Hal := Lib.hid hal
    clear hal
    have hz := hr.size
    by_cases hlt : k < 6
    · have hd : decide ((k : Int) < 6) = true := by simp; omega
      have a1 := (cell_of_heap ((hr.block fa lfa).trans Hfa.out) (k * 2)).trans (fcells_word a k hlt)
      have a2 := (cell_of_heap ((hr.block fa lfa).trans Hfa.out) (k * 2 + 1)).trans (fcells_at a k hlt)
      have a3 := (cell_of_heap ((hr.block fb lfb).trans Hfb.out) (k * 2)).trans (fcells_word b k hlt)
      have a4 := (cell_of_heap ((hr.block fb lfb).trans Hfb.out) (k * 2 + 1)).trans (fcells_at b k hlt)
      have a5 := (cell_of_heap ((hr.block a la).trans Ha.out) k).trans (scells_at f sa k hlt)
      have a6 := (cell_of_heap ((hr.block b lb).trans Hb.out) k).trans (scells_at g sb k hlt)
      have m1 : fa < wr.heap.size := by omega
      have m2 : fb < wr.heap.size := by omega
      have m3 : a < wr.heap.size := by omega
      have m4 : b < wr.heap.size := by omega
      have hn : ∀ o1 o2, Below w.heap.size w ((wr.alloc o1).alloc o2) := fun o1 o2 => (hr.alloc hz _).alloc (by simp; omega) _
      have Hn := Lib.hid hn
      clear hn
      have exy : (f k == g k) = true ∨ (f k == g k) = false := by cases (f k == g k) <;> simp
      rcases exy with exy | exy
      · have exy2 : alikeN f g (k + 1) = true := by show (alikeN f g k && (f k == g k)) = true; rw [Hal.out, exy]; rfl
        have Ex := Lib.hid exy2
        clear exy2
        go_wp2_with (go_at_call 38; refine (eq_any _ _ _ _ _ _ _ _ _ ((World.cell?_of_block (w := wr) (by rw [Below.heap_alloc _ _ _ (by simp; omega), Below.heap_alloc _ _ _ (by omega)])).trans a5) ((World.cell?_of_block (w := wr) (by rw [Below.heap_alloc _ _ _ (by simp; omega), Below.heap_alloc _ _ _ (by omega)])).trans a6)).mono ?_; rintro e1 w1 ⟨rfl, hb1⟩)
        go_roundw
        case rel => exact ⟨k + 1, by omega, by go_num, (Hn.out _ _).trans (hb1.mono (by simp; omega)), Ex.out⟩
        case measure => simp [intOf]; omega
      · have exy2 : alikeN f g (k + 1) = false := by show (alikeN f g k && (f k == g k)) = false; rw [exy]; simp
        have hno : alike6 f g = false := by
          rw [← alikeN_six]
          have := alikeN_false exy2 (5 - k)
          rw [show k + 1 + (5 - k) = 6 by omega] at this
          exact this
        have Hno := Lib.hid hno
        clear exy2 hno
        go_wp2_with (go_at_call 38; refine (eq_any _ _ _ _ _ _ _ _ _ ((World.cell?_of_block (w := wr) (by rw [Below.heap_alloc _ _ _ (by simp; omega), Below.heap_alloc _ _ _ (by omega)])).trans a5) ((World.cell?_of_block (w := wr) (by rw [Below.heap_alloc _ _ _ (by simp; omega), Below.heap_alloc _ _ _ (by omega)])).trans a6)).mono ?_; rintro e1 w1 ⟨rfl, hb1⟩)
        go_ret
        exact ⟨by rw [Hno.out]; rfl, (Hn.out _ _).trans (hb1.mono (by simp; omega))⟩
    · obtain rfl : k = 6 := by omega
      go_wp2
      go_ret
      exact ⟨by rw [← alikeN_six, Hal.out]; rfl, hr⟩

theorem equal_any (p q : Option Addr) (es fs : List Int) (c d : Nat) (w : World) (hes : IntsAt w p es) (hfs : IntsAt w q fs) (hn : es.length ≤ 9223372036854775807) (hm : fs.length ≤ 9223372036854775807) :
    Calls Tryd.prog 36 #[.slice p es.length c, .slice q fs.length d] w fun e w' => e = .returned (.bool (es == fs)) ∧ Below w.heap.size w w' := by
  by_cases hl : es.length = fs.length
  · rcases hes with he | ⟨b1, o1, rfl, _, h1⟩
    · subst he
      have hf : fs = [] := List.length_eq_zero_iff.1 (by simpa using hl.symm)
      subst hf
      exact (Tryd.slices_Equal_int_empty p q c 0 d w (by omega)).mono fun e w' ⟨he, hw⟩ => ⟨he, by rw [hw]; exact Below.refl _ _⟩
    · rcases hfs with hf | ⟨b2, o2, rfl, _, h2⟩
      · subst hf
        have he : es = [] := List.length_eq_zero_iff.1 (by simpa using hl)
        subst he
        exact (Tryd.slices_Equal_int_empty _ q c 0 d w (by omega)).mono fun e w' ⟨he, hw⟩ => ⟨he, by rw [hw]; exact Below.refl _ _⟩
      · refine (Tryd.slices_Equal_int b1 o1 es.length c b2 o2 fs.length d es fs w (Nat.le_refl _) (Nat.le_refl _) (by omega) (by omega) h1 h2).mono fun e w' ⟨he, n, hw⟩ => ⟨by rw [he, List.take_length, List.take_length], by rw [hw]; exact below_drewN (Below.refl _ _) n⟩
  · refine (Tryd.slices_Equal_int_lens p q es.length c fs.length d w hl).mono fun e w' ⟨he, hw⟩ => ⟨?_, by rw [hw]; exact Below.refl _ _⟩
    rw [he]
    have : (es == fs) = false := by rw [beq_eq_false_iff_ne]; intro h; exact hl (by rw [h])
    rw [this]

theorem heap4 (w : World) (o1 o2 o3 o4 : Obj) : (((((w.alloc o1).alloc o2).alloc o3).alloc o4).drew.drew).heap[w.heap.size]? = some o1 ∧ (((((w.alloc o1).alloc o2).alloc o3).alloc o4).drew.drew).heap[w.heap.size + 1]? = some o2 ∧ (((((w.alloc o1).alloc o2).alloc o3).alloc o4).drew.drew).heap[w.heap.size + 2]? = some o3 ∧ (((((w.alloc o1).alloc o2).alloc o3).alloc o4).drew.drew).heap[w.heap.size + 3]? = some o4 := by
  refine ⟨?_, ?_, ?_, ?_⟩
  all_goals simp only [World.alloc, World.drew, Array.getElem?_push, Array.size_push, Nat.add_assoc, Nat.reduceAdd]
  all_goals simp

set_option maxRecDepth 100000 in
set_option maxHeartbeats 800000 in
theorem dsame_any (f g : Nat → Int) (p q : Option Addr) (es fs : List Int) (c d : Nat) (w : World) (hes : IntsAt w p es) (hfs : IntsAt w q fs) (hn : es.length ≤ 9223372036854775807) (hm : fs.length ≤ 9223372036854775807) :
    Calls Tryd.prog 20 #[.agg (scells f (.slice p es.length c)), .agg (scells g (.slice q fs.length d))] w fun e w' => e = .returned (.bool (es == fs && alike6 f g)) ∧ Below w.heap.size w w' := by
  unfold scells
  go_enter Tryd.func20, Tryd.ntmps20
  go_upto_region 2 with (go_at_call 30; refine (fields_any _ _).mono ?_; rintro e1 w1 ⟨rfl, rfl⟩)
  simp only [Nat.add_assoc, Nat.reduceAdd]
  generalize hW : World.drew _ = W
  have G := heap4 w (.cells (scells f (.slice p es.length c)) 41 (0, 0)) (.cells (scells g (.slice q fs.length d)) 41 (0, 0)) (.cells (fcells w.heap.size) 72 (0, 0)) (.cells (fcells (w.heap.size + 1)) 72 (0, 0))
  have hW2 : (((((w.alloc (.cells (scells f (.slice p es.length c)) 41 (0, 0))).alloc (.cells (scells g (.slice q fs.length d)) 41 (0, 0))).alloc (.cells (fcells w.heap.size) 72 (0, 0))).alloc (.cells (fcells (w.heap.size + 1)) 72 (0, 0))).drew.drew) = W := hW
  rw [hW2] at G
  obtain ⟨g0, g1, g2, g3⟩ := G
  clear hW2
  have hb : Below w.heap.size w W := by rw [← hW]; exact below_drewN (((((Below.refl _ w).alloc (Nat.le_refl _) _).alloc (by simp) _).alloc (by simp; omega) _).alloc (by simp; omega) _) 2
  have c1 : W.cell? ⟨w.heap.size, 6, none⟩ = some (.slice p es.length c) := (cell_of_heap g0 6).trans rfl
  have c2 : W.cell? ⟨w.heap.size + 1, 6, none⟩ = some (.slice q fs.length d) := (cell_of_heap g1 6).trans rfl
  have l0 := (Array.getElem?_eq_some_iff.1 g0).1
  have l1 := (Array.getElem?_eq_some_iff.1 g1).1
  have l2 := (Array.getElem?_eq_some_iff.1 g2).1
  have l3 := (Array.getElem?_eq_some_iff.1 g3).1
  have E := Lib.hid (equal_any p q es fs c d W (hes.below hb (Nat.le_refl _)) (hfs.below hb (Nat.le_refl _)) hn hm)
  have hz := hb.size
  clear hW hes hfs
  have exy : (es == fs) = false ∨ (es == fs) = true := by cases (es == fs) <;> simp
  rcases exy with exy | exy
  · rw [exy] at E
    have Ex := Lib.hid exy
    clear exy
    go_wp2_with (go_at_call 36; refine E.out.mono ?_; rintro e1 w1 ⟨rfl, hb1⟩)
    go_ret
    exact ⟨by rw [Ex.out]; rfl, hb.trans (hb1.mono hz)⟩
  · rw [exy] at E
    have Ex := Lib.hid exy
    clear exy
    go_wp2_with (first | (go_at_call 36; refine E.out.mono ?_; rintro e1 w1 ⟨rfl, hb1⟩) | (go_at_call 37; refine (func_any f g _ _ _ _ _ _ _ ((hb1.block _ l0).trans g0) ((hb1.block _ l1).trans g1) ((hb1.block _ l2).trans g2) ((hb1.block _ l3).trans g3)).mono ?_; rintro e2 w2 ⟨rfl, hb2⟩))
    go_ret
    exact ⟨by rw [Ex.out, Bool.true_and]; rfl, (hb.trans (hb1.mono hz)).trans (hb2.mono (Nat.le_trans hz hb1.size))⟩
end Go.Proofs.YtmadabecpgjpjaaDoor
