/- deed.reader: next, word, number. -/
import Derived.Test.YtmadabecpgjpjaaDoorDeedF
import Derived.WideLaws
import Derived.Test.YtmadabecpgjpjaaDoorDeedA
import Derived.WalkSpells
namespace Go.Proofs.YtmadabecpgjpjaaDoor
open Go.RowKit

/-- The words that are left: a slice whose capacity is its length. -/
def LeftAt (w : World) (kb : Nat) (v : Value) (xs : List ByteArray) : Prop :=
  ∃ o, v = .slice (some ⟨kb, o, none⟩) xs.length xs.length ∧ ∀ j x, xs[j]? = some x → w.cell? ⟨kb, o + j, none⟩ = some (.string x)
/-- A reader's block. -/
def RS (w : World) (rb kb : Nat) (xs : List ByteArray) (bad : Bool) : Prop :=
  rb ≠ kb ∧ ∃ v, w.heap[rb]? = some (.cells #[v, .bool bad] 76 (0, 0)) ∧ LeftAt w kb v xs

theorem LeftAt.of_same {w w' : World} {kb : Nat} {v : Value} {xs : List ByteArray} (h : LeftAt w kb v xs) (hk : w'.heap[kb]? = w.heap[kb]?) : LeftAt w' kb v xs := by
  obtain ⟨o, rfl, hc⟩ := h
  exact ⟨o, rfl, fun j x hj => by rw [← hc j x hj]; unfold World.cell?; rw [hk]⟩

theorem cell_of_heap {w : World} {b : Nat} {c : Array Value} {t : TypeId} {f : Nat × Nat} (h : w.heap[b]? = some (.cells c t f)) (i : Nat) : w.cell? ⟨b, i, none⟩ = c[i]? := by
  simp [World.cell?, h]
theorem frozen_of_heap {w : World} {b : Nat} {c : Array Value} {t : TypeId} (h : w.heap[b]? = some (.cells c t (0, 0))) (i : Nat) : w.frozen? ⟨b, i, none⟩ = false := by
  simp [World.frozen?, h]
theorem heap_set {w : World} {b : Nat} {c : Array Value} {t : TypeId} {f : Nat × Nat} (h : w.heap[b]? = some (.cells c t f)) (i : Nat) (v : Value) : (w.setCell ⟨b, i, none⟩ v).heap[b]? = some (.cells (c.setIfInBounds i v) t f) := by
  simp [World.setCell, Array.getElem?_modify, h]
theorem heap_set_ne {w : World} {b k i : Nat} (h : k ≠ b) (v : Value) : (w.setCell ⟨b, i, none⟩ v).heap[k]? = w.heap[k]? := by
  simp [World.setCell, Array.getElem?_modify, Ne.symm h]
theorem grown_set (w : World) (b i : Nat) (v : Value) : w.grownBy (w.setCell ⟨b, i, none⟩ v) (some b) :=
  ⟨rfl, rfl, rfl, by simp [World.setCell], fun k _ hne => heap_set_ne (fun e => hne (by rw [e])) v⟩

/-- next: the word, what is left, whether it is bad. -/
def nextS : List ByteArray → Bool → ByteArray × List ByteArray × Bool
  | [], _ => (⟨#[]⟩, [], true)
  | x :: r, b => (x, r, b)

set_option maxRecDepth 100000 in
set_option maxHeartbeats 400000 in
theorem next_any (rb kb : Nat) (xs : List ByteArray) (bad : Bool) (w : World) (h : RS w rb kb xs bad) (hm : xs.length ≤ 9223372036854775807) :
    Calls Tryd.prog 50 #[.pointer (some ⟨rb, 0, none⟩)] w fun e w' => e = .returned (.string (nextS xs bad).1) ∧ RS w' rb kb (nextS xs bad).2.1 (nextS xs bad).2.2 ∧ w.grownBy w' (some rb) := by
  obtain ⟨hne, v, hr, o, rfl, hc⟩ := h
  have c0 := cell_of_heap hr 0
  have c1 := cell_of_heap hr 1
  have f0 := frozen_of_heap hr 0
  have f1 := frozen_of_heap hr 1
  simp only [List.getElem?_toArray, List.getElem?_cons_zero, List.getElem?_cons_succ] at c0 c1
  cases xs with
  | nil =>
    simp only [List.length_nil] at c0
    clear hc
    go_enter Tryd.func50, Tryd.ntmps50
    go_wp2
    go_ret
    exact ⟨rfl, ⟨hne, _, heap_set hr 1 _, o, rfl, fun j x hj => by simp [nextS] at hj⟩, grown_set _ _ _ _⟩
  | cons x r =>
    have cx : w.cell? ⟨kb, o, none⟩ = some (.string x) := hc 0 x rfl
    simp only [List.length_cons] at c0 hm
    have hb0 : (((r.length + 1 : Nat) : Int) == 0) = false := by rw [beq_eq_false_iff_ne]; omega
    have HC := Lib.hid hc
    clear hc
    go_enter Tryd.func50, Tryd.ntmps50
    go_wp2
    · go_ret
      exact ⟨rfl, ⟨hne, _, heap_set hr 0 _, o, rfl, fun j y hj => by simp [nextS] at hj⟩, grown_set _ _ _ _⟩
    · go_ret
      refine ⟨rfl, ⟨hne, _, heap_set hr 0 _, LeftAt.of_same ⟨o + 1, rfl, fun j y hj => ?_⟩ (heap_set_ne (Ne.symm hne) _)⟩, grown_set _ _ _ _⟩
      have := HC.out (j + 1) y hj
      rw [← this]
      congr 2
      omega

/-- The frame of a reader's step. -/
theorem grown_trans {a b c : World} {r : Option Nat} (h1 : a.grownBy b r) (h2 : b.grownBy c r) : a.grownBy c r :=
  ⟨h2.os.trans h1.os, h2.tape.trans h1.tape, h2.output.trans h1.output, Nat.le_trans h1.size h2.size, fun k hk hne => (h2.block k (Nat.lt_of_lt_of_le hk h1.size) hne).trans (h1.block k hk hne)⟩
theorem grown_of_below {a b : World} (h : Below a.heap.size a b) (r : Option Nat) : a.grownBy b r := ⟨h.os, h.tape, h.output, h.size, fun k hk _ => h.block k hk⟩
theorem RS.mark {w : World} {rb kb : Nat} {xs : List ByteArray} {b : Bool} (h : RS w rb kb xs b) (b' : Bool) : RS (w.setCell ⟨rb, 1, none⟩ (.bool b')) rb kb xs b' := by
  obtain ⟨hne, v, hr, hl⟩ := h
  exact ⟨hne, v, heap_set hr 1 (.bool b'), hl.of_same (heap_set_ne (Ne.symm hne) _)⟩
theorem RS.cell {w : World} {rb kb : Nat} {xs : List ByteArray} {b : Bool} (h : RS w rb kb xs b) : w.cell? ⟨rb, 1, none⟩ = some (.bool b) := by
  obtain ⟨hne, v, hr, hl⟩ := h
  exact cell_of_heap hr 1
theorem RS.free {w : World} {rb kb : Nat} {xs : List ByteArray} {b : Bool} (h : RS w rb kb xs b) (i : Nat) : w.frozen? ⟨rb, i, none⟩ = false := by
  obtain ⟨hne, v, hr, hl⟩ := h
  exact frozen_of_heap hr i
theorem bne_bytes (a b : ByteArray) : (a != b) = !(a.toList == b.toList) := by rw [bne, beq_toListBytes]
theorem toList_inj {a b : ByteArray} (h : a.toList = b.toList) : a = b := by
  rw [ByteArray.toList_eq, ByteArray.toList_eq] at h
  exact ByteArray.ext (Array.ext' h)
theorem RS.below {w w' : World} {rb kb : Nat} {xs : List ByteArray} {bad : Bool} (h : RS w rb kb xs bad) (hb : Below w.heap.size w w') (hk : kb < w.heap.size) : RS w' rb kb xs bad := by
  obtain ⟨hne, v, hr, hl⟩ := h
  exact ⟨hne, v, (hb.block rb (Array.getElem?_eq_some_iff.1 hr).1).trans hr, hl.of_same (hb.block kb hk)⟩
theorem Env.grown {w w' : World} (h : Env w) {rb : Nat} (hg : w.grownBy w' (some rb)) (h8 : 8 ≤ rb) : Env w' :=
  h.below (B := 8) ⟨hg.os, hg.tape, hg.output, hg.size, fun k hk => hg.block k (Nat.lt_of_lt_of_le hk h.size) (by intro e; injection e with e; omega)⟩ (Nat.le_refl _)

/-- number: the number, what is left, whether it is bad. -/
def numberS (xs : List ByteArray) (bad : Bool) : Int × List ByteArray × Bool :=
  ((atoiV (nextS xs bad).1.data.toList).1, (nextS xs bad).2.1, (nextS xs bad).2.2 || (atoiV (nextS xs bad).1.data.toList).2 || dg (atoiV (nextS xs bad).1.data.toList).1 != (nextS xs bad).1)

theorem atoiV_i64 (l : List UInt8) : I64 (atoiV l).1 := by
  unfold atoiV
  cases h : Lib.atoiAll l with
  | ok v =>
    unfold Lib.atoiAll at h
    cases l with
    | nil => cases h
    | cons c r =>
      simp only [] at h
      cases hp : Lib.parseMag (if c.toNat = 43 ∨ c.toNat = 45 then r else c :: r) with
      | range => rw [hp] at h; cases h
      | ok u =>
        rw [hp] at h
        simp only [] at h
        show I64 v
        by_cases hneg : c.toNat = 45
        · rw [if_neg (fun e => e.1 hneg)] at h
          split at h
          · cases h
          · rename_i h2
            injection h with h
            have : ¬ 9223372036854775808 < u := fun e => h2 ⟨hneg, e⟩
            exact ⟨by omega, by omega⟩
        · split at h
          · cases h
          · rename_i h1
            rw [if_neg (fun e => hneg e.1)] at h
            injection h with h
            have : ¬ 9223372036854775808 ≤ u := fun e => h1 ⟨hneg, e⟩
            exact ⟨by omega, by omega⟩
      | _ => rw [hp] at h; cases h
  | range =>
    show I64 (Lib.atoiSat l)
    unfold Lib.atoiSat
    split <;> exact ⟨by decide, by decide⟩
  | _ => show I64 0; exact ⟨by decide, by decide⟩

theorem nextS_size {xs : List ByteArray} {bad : Bool} {m : Nat} (h : ∀ x ∈ xs, x.size ≤ m) : (nextS xs bad).1.size ≤ m := by
  cases xs with
  | nil => exact Nat.zero_le _
  | cons x r => exact h x (by simp)

set_option maxRecDepth 100000 in
set_option maxHeartbeats 800000 in
theorem number_any (rb kb : Nat) (xs : List ByteArray) (bad : Bool) (w : World) (hE : Env w) (h8 : 8 ≤ rb) (h : RS w rb kb xs bad) (hk : kb < w.heap.size) (hm : xs.length ≤ 9223372036854775807) (hz : ∀ x ∈ xs, x.size ≤ 281474976710656) :
    Calls Tryd.prog 33 #[.pointer (some ⟨rb, 0, none⟩)] w fun e w' => e = .returned (.int .i64 (numberS xs bad).1) ∧ RS w' rb kb (numberS xs bad).2.1 (numberS xs bad).2.2 ∧ w.grownBy w' (some rb) := by
  have hs := nextS_size (bad := bad) hz
  have nx := next_any rb kb xs bad w h hm
  have ev : numberS xs bad = ((atoiV (nextS xs bad).1.data.toList).1, (nextS xs bad).2.1, (nextS xs bad).2.2 || (atoiV (nextS xs bad).1.data.toList).2 || dg (atoiV (nextS xs bad).1.data.toList).1 != (nextS xs bad).1) := rfl
  rw [ev]
  clear ev
  generalize (nextS xs bad).1 = s at hs nx ⊢
  generalize (nextS xs bad).2.1 = r at nx ⊢
  generalize (nextS xs bad).2.2 = b at nx ⊢
  have h64 := atoiV_i64 s.data.toList
  have ai := fun w1 hE1 => atoi_call s w1 hE1 hs
  generalize (atoiV s.data.toList).1 = n at h64 ai ⊢
  generalize (atoiV s.data.toList).2 = er at ai ⊢
  have NX := Lib.hid nx
  have AI := Lib.hid ai
  clear nx ai hz hs
  cases b
  · cases er
    · rw [show (false || false || dg n != s) = !((dg n).toList == s.toList) from bne_bytes _ _]
      go_enter Tryd.func33, Tryd.ntmps33
      go_wp2_with (first
        | (go_at_call 50; refine NX.out.mono ?_; rintro e1 w1 ⟨rfl, hrs, hg1⟩; have hE1 : Env w1 := hE.grown hg1 h8; have hk1 : kb < w1.heap.size := Nat.lt_of_lt_of_le hk hg1.size)
        | (go_at_call 26; refine (AI.out _ hE1).mono ?_; rintro e2 w2 ⟨err, rfl, herr, hb2⟩; obtain rfl : err = .nilIface := herr; have hrs2 := hrs.below hb2 hk1; have hk2 : kb < w2.heap.size := Nat.lt_of_lt_of_le hk1 hb2.size; have hE2 := hE1.below hb2 hE1.size; have c1 := hrs2.cell; have f1 := hrs2.free 1)
        | (go_at_call 31; refine (itoaB _ h64 _ hE2).mono ?_; rintro e3 w3 ⟨rfl, hb3⟩; have hrs3 := hrs2.below hb3 hk2; have c2 := hrs3.cell; have f2 := hrs3.free 1))
      go_ret
      exact ⟨rfl, hrs3.mark _, grown_trans (grown_trans (grown_trans hg1 (grown_of_below hb2 _)) (grown_of_below hb3 _)) (grown_set _ _ _ _)⟩
    · rw [show (false || true || dg n != s) = true from rfl]
      go_enter Tryd.func33, Tryd.ntmps33
      go_wp2_with (first
        | (go_at_call 50; refine NX.out.mono ?_; rintro e1 w1 ⟨rfl, hrs, hg1⟩; have hE1 : Env w1 := hE.grown hg1 h8; have hk1 : kb < w1.heap.size := Nat.lt_of_lt_of_le hk hg1.size)
        | (go_at_call 26; refine (AI.out _ hE1).mono ?_; rintro e2 w2 ⟨err, rfl, herr, hb2⟩; obtain ⟨t, x, rfl⟩ := herr; have hrs2 := hrs.below hb2 hk1; have hk2 : kb < w2.heap.size := Nat.lt_of_lt_of_le hk1 hb2.size; have hE2 := hE1.below hb2 hE1.size; have c1 := hrs2.cell; have f1 := hrs2.free 1))
      go_ret
      exact ⟨rfl, hrs2.mark _, grown_trans (grown_trans hg1 (grown_of_below hb2 _)) (grown_set _ _ _ _)⟩
  · rw [show (true || er || dg n != s) = true from by cases er <;> rfl]
    go_enter Tryd.func33, Tryd.ntmps33
    go_wp2_with (first
      | (go_at_call 50; refine NX.out.mono ?_; rintro e1 w1 ⟨rfl, hrs, hg1⟩; have hE1 : Env w1 := hE.grown hg1 h8; have hk1 : kb < w1.heap.size := Nat.lt_of_lt_of_le hk hg1.size)
      | (go_at_call 26; refine (AI.out _ hE1).mono ?_; rintro e2 w2 ⟨err, rfl, herr, hb2⟩; have hrs2 := hrs.below hb2 hk1; have hk2 : kb < w2.heap.size := Nat.lt_of_lt_of_le hk1 hb2.size; have hE2 := hE1.below hb2 hE1.size; have c1 := hrs2.cell; have f1 := hrs2.free 1))
    go_ret
    exact ⟨rfl, hrs2.mark _, grown_trans (grown_trans hg1 (grown_of_below hb2 _)) (grown_set _ _ _ _)⟩

/-- word: what is left, whether it is bad. -/
def wordS (t : ByteArray) (xs : List ByteArray) (bad : Bool) : List ByteArray × Bool := ((nextS xs bad).2.1, (nextS xs bad).1 != t || (nextS xs bad).2.2)

set_option maxRecDepth 100000 in
set_option maxHeartbeats 800000 in
theorem word_any (t : ByteArray) (rb kb : Nat) (xs : List ByteArray) (bad : Bool) (w : World) (h : RS w rb kb xs bad) (hm : xs.length ≤ 9223372036854775807) :
    Calls Tryd.prog 34 #[.pointer (some ⟨rb, 0, none⟩), .string t] w fun e w' => e = .returned (.tuple #[]) ∧ RS w' rb kb (wordS t xs bad).1 (wordS t xs bad).2 ∧ w.grownBy w' (some rb) := by
  have nx := next_any rb kb xs bad w h hm
  have ev : wordS t xs bad = ((nextS xs bad).2.1, (nextS xs bad).1 != t || (nextS xs bad).2.2) := rfl
  rw [ev]
  clear ev
  generalize (nextS xs bad).1 = s at nx ⊢
  generalize (nextS xs bad).2.1 = r at nx ⊢
  generalize (nextS xs bad).2.2 = b at nx ⊢
  have NX := Lib.hid nx
  clear nx
  by_cases hst : s = t
  · subst hst
    rw [show (s != s) = false from by rw [bne_bytes]; simp, Bool.false_or]
    have hq : (s.toList == s.toList) = true := by simp
    go_enter Tryd.func34, Tryd.ntmps34
    go_wp2_with (go_at_call 50; refine NX.out.mono ?_; rintro e1 w1 ⟨rfl, hrs, hg1⟩; have c1 := hrs.cell; have f1 := hrs.free 1)
    go_end0
    exact ⟨rfl, hrs.mark _, grown_trans hg1 (grown_set _ _ _ _)⟩
  · have hq : (s.toList == t.toList) = false := by rw [beq_eq_false_iff_ne]; exact fun e => hst (toList_inj e)
    have hne : (s != t) = true := by rw [bne_bytes, hq]; rfl
    rw [hne, Bool.true_or]
    clear hne hst
    go_enter Tryd.func34, Tryd.ntmps34
    go_wp2_with (go_at_call 50; refine NX.out.mono ?_; rintro e1 w1 ⟨rfl, hrs, hg1⟩; have c1 := hrs.cell; have f1 := hrs.free 1)
    go_end0
    exact ⟨rfl, hrs.mark _, grown_trans hg1 (grown_set _ _ _ _)⟩
end Go.Proofs.YtmadabecpgjpjaaDoor
