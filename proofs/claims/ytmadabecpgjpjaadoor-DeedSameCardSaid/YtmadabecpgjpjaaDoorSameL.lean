/- The law DeedSame: its walk. -/
import Derived.Test.YtmadabecpgjpjaaDoorAwakeA
namespace Go.Proofs.YtmadabecpgjpjaaDoor
open Go.RowKit

/-- Whether two deeds are alike. -/
def alikeB (f g : Nat → Int) (es fs : List Int) : Bool := es == fs && alike6 f g
theorem alikeB_same (f g : Nat → Int) (es fs : List Int) : (alike6 f g && (es.length == fs.length && es == fs)) = alikeB f g es fs := by
  unfold alikeB
  by_cases h : es = fs
  · subst h; simp
  · have : (es == fs) = false := by simpa using h
    rw [this]; simp
theorem alikeB_line {f g : Nat → Int} {es fs : List Int} (hf : ∀ k, k < 6 → I64 (f k)) (hg : ∀ k, k < 6 → I64 (g k)) (he : ∀ x ∈ es, I64 x) (hs : ∀ x ∈ fs, I64 x) (hn : es.length ≤ 64) (hm : fs.length ≤ 64) :
    ((lineB f es).toList == (lineB g fs).toList) = alikeB f g es fs := by
  unfold alikeB
  by_cases h : es = fs ∧ alike6 f g = true
  · obtain ⟨h1, h2⟩ := h
    subst h1
    have e : ∀ j, j < 6 → f j = g j := by
      simp only [alike6, Bool.and_eq_true, beq_iff_eq] at h2
      intro j hj
      match j, hj with
      | 0, _ => exact h2.1.1.1.1.1
      | 1, _ => exact h2.1.1.1.1.2
      | 2, _ => exact h2.1.1.1.2
      | 3, _ => exact h2.1.1.2
      | 4, _ => exact h2.1.2
      | 5, _ => exact h2.2
    have el : lineB f es = lineB g es := by unfold lineB lineWs; rw [wordsA_congr 6 e]
    rw [el, h2]
    simp
  · have hr : (es == fs && alike6 f g) = false := by
      rw [Bool.eq_false_iff]
      intro hh
      simp only [Bool.and_eq_true, beq_iff_eq] at hh
      exact h hh
    rw [hr, beq_eq_false_iff_ne]
    intro hl
    have hl2 := toList_inj hl
    obtain ⟨h1, h2⟩ := lineB_inj hf hg he hs hn hm hl2
    exact h ⟨h2, by simp [alike6, h1 0 (by decide), h1 1 (by decide), h1 2 (by decide), h1 3 (by decide), h1 4 (by decide), h1 5 (by decide)]⟩

theorem dsame_b (f g : Nat → Int) (p q : Option Addr) (es fs : List Int) (c d : Nat) (w : World) (hes : IntsAt w p es) (hfs : IntsAt w q fs) (hn : es.length ≤ 9223372036854775807) (hm : fs.length ≤ 9223372036854775807) (b : Bool) (hb : alikeB f g es fs = b) :
    Calls Tryd.prog 20 #[.agg (scells f (.slice p es.length c)), .agg (scells g (.slice q fs.length d))] w fun e w' => e = .returned (.bool b) ∧ Below w.heap.size w w' := by
  rw [← hb]; exact dsame_any f g p q es fs c d w hes hfs hn hm
theorem same_b (f g : Nat → Int) (p q : Option Addr) (es fs : List Int) (c d : Nat) (w : World) (hes : IntsAt w p es) (hfs : IntsAt w q fs) (hn : es.length ≤ 9223372036854775807) (hm : fs.length ≤ 9223372036854775807) (b : Bool) (hb : alikeB f g es fs = b) :
    Calls Tryd.prog 19 #[.agg (scells f (.slice p es.length c)), .agg (scells g (.slice q fs.length d))] w fun e w' => e = .returned (.bool b) ∧ Below w.heap.size w w' := by
  rw [← hb, ← alikeB_same]; exact same_any f g p q es fs c d w hes hfs hn hm

set_option maxRecDepth 100000 in
set_option maxHeartbeats 1600000 in
/-- What is left once both are written. -/
theorem dsame_walk (f g : Nat → Int) (p q : Option Addr) (es fs : List Int) (c d : Nat) (w : World) (hE : Env w) (hes : IntsAt w p es) (hfs : IntsAt w q fs) (hn : es.length ≤ 9223372036854775807) (hm : fs.length ≤ 9223372036854775807)
    (l1 l2 : ByteArray) (x1 x2 : Int) (b : Bool) (hb : alikeB f g es fs = b)
    (W1 : ∀ w', Below w.heap.size w w' → Calls Tryd.prog 15 #[.agg (scells f (.slice p es.length c))] w' fun e w'' => e = .returned (.tuple #[.string l1, .int .i64 x1]) ∧ Below w'.heap.size w' w'')
    (W2 : ∀ w', Below w.heap.size w w' → Calls Tryd.prog 15 #[.agg (scells g (.slice q fs.length d))] w' fun e w'' => e = .returned (.tuple #[.string l2, .int .i64 x2]) ∧ Below w'.heap.size w' w'')
    (hx : (x1 != 0) = true ∨ ((x1 != 0) = false ∧ (x2 != 0) = true) ∨ ((x1 != 0) = false ∧ (x2 != 0) = false ∧ (l1.toList == l2.toList) = b)) :
    Calls Tryd.prog 8 #[.agg (scells f (.slice p es.length c)), .agg (scells g (.slice q fs.length d))] w fun e w' => e = .returned (.bool true) ∧ Below w.heap.size w w' := by
  have hz8 := hE.size
  have HX := Lib.hid hx
  have HB := Lib.hid hb
  have HN := Lib.hid hn
  have HM := Lib.hid hm
  have hW1 := Lib.hid W1
  have hW2 := Lib.hid W2
  clear hx hb hn hm W1 W2
  unfold scells
  go_enter Tryd.func8, Tryd.ntmps8
  go_upto_region 1 with fail
  generalize hw2 : World.alloc _ _ = w2
  have hb : Below w.heap.size w w2 := by rw [← hw2]; exact ((Below.refl _ w).alloc (Nat.le_refl _) _).alloc (by simp) _
  have hg : w2.heap[w.heap.size]? = some (.cells (scells f (.slice p es.length c)) 41 (0, 0)) := by rw [← hw2]; exact first_of w _ _
  have hh : w2.heap[w.heap.size + 1]? = some (.cells (scells g (.slice q fs.length d)) 41 (0, 0)) := by rw [← hw2]; exact second w _ _
  have l1' := (Array.getElem?_eq_some_iff.1 hg).1
  have l2' := (Array.getElem?_eq_some_iff.1 hh).1
  obtain ⟨c0, c1, c2, c3, c4, c5, c6⟩ := cells7 hg
  have hz := hb.size
  clear hw2
  go_upto_region 2 with (go_at_call 15; refine (hW1.out _ hb).mono ?_; rintro e1 w1 ⟨rfl, hb1⟩)
  have hg1 := (hb1.block _ l1').trans hg
  have hh1 := (hb1.block _ l2').trans hh
  obtain ⟨d0, d1, d2, d3, d4, d5, d6⟩ := cells7 hh1
  have hb2 := hb.trans (hb1.mono hz)
  go_upto_region 3 with (go_at_call 15; refine (hW2.out _ hb2).mono ?_; rintro e2 w3 ⟨rfl, hb3⟩)
  have hg3 := (hb3.block _ (Array.getElem?_eq_some_iff.1 hg1).1).trans hg1
  have hh3 := (hb3.block _ (Array.getElem?_eq_some_iff.1 hh1).1).trans hh1
  have hb4 := hb2.trans (hb3.mono (Nat.le_trans hz hb1.size))
  have q1 := (Array.getElem?_eq_some_iff.1 hg3).1
  have q2 := (Array.getElem?_eq_some_iff.1 hh3).1
  have hE4 := hE.below hb4 hz8
  have hi4 := hes.below hb4 (Nat.le_refl _)
  have hj4 := hfs.below hb4 (Nat.le_refl _)
  have hS : Below w3.heap.size w3 w3.drew := (Below.refl _ _).drew
  have hne : Nonempty (At (Below w3.heap.size w3)) := ⟨⟨_, hS⟩⟩
  have st : ∀ (x : At (Below w3.heap.size w3)) (w' : World), Below x.w.heap.size x.w w' → Below w3.heap.size w3 w' := fun x w' hb => x.h.trans (hb.mono x.h.size)
  have xE : ∀ x : At (Below w3.heap.size w3), Env x.w := fun x => hE4.below x.h hE4.size
  have xi : ∀ x : At (Below w3.heap.size w3), IntsAt x.w p es := fun x => hi4.below x.h (Nat.le_refl _)
  have xj : ∀ x : At (Below w3.heap.size w3), IntsAt x.w q fs := fun x => hj4.below x.h (Nat.le_refl _)
  have xg : ∀ x : At (Below w3.heap.size w3), x.w.heap[w.heap.size]? = some (.cells (scells f (.slice p es.length c)) 41 (0, 0)) := fun x => (x.h.block _ q1).trans hg3
  have xh : ∀ x : At (Below w3.heap.size w3), x.w.heap[w.heap.size + 1]? = some (.cells (scells g (.slice q fs.length d)) 41 (0, 0)) := fun x => (x.h.block _ q2).trans hh3
  have a0 : ∀ x : At (Below w3.heap.size w3), x.w.cell? ⟨w.heap.size, 0, none⟩ = _ := fun x => (cells7 (xg x)).1
  have a1 : ∀ x : At (Below w3.heap.size w3), x.w.cell? ⟨w.heap.size, 1, none⟩ = _ := fun x => (cells7 (xg x)).2.1
  have a2 : ∀ x : At (Below w3.heap.size w3), x.w.cell? ⟨w.heap.size, 2, none⟩ = _ := fun x => (cells7 (xg x)).2.2.1
  have a3 : ∀ x : At (Below w3.heap.size w3), x.w.cell? ⟨w.heap.size, 3, none⟩ = _ := fun x => (cells7 (xg x)).2.2.2.1
  have a4 : ∀ x : At (Below w3.heap.size w3), x.w.cell? ⟨w.heap.size, 4, none⟩ = _ := fun x => (cells7 (xg x)).2.2.2.2.1
  have a5 : ∀ x : At (Below w3.heap.size w3), x.w.cell? ⟨w.heap.size, 5, none⟩ = _ := fun x => (cells7 (xg x)).2.2.2.2.2.1
  have a6 : ∀ x : At (Below w3.heap.size w3), x.w.cell? ⟨w.heap.size, 6, none⟩ = _ := fun x => (cells7 (xg x)).2.2.2.2.2.2
  have b0 : ∀ x : At (Below w3.heap.size w3), x.w.cell? ⟨w.heap.size + 1, 0, none⟩ = _ := fun x => (cells7 (xh x)).1
  have b1 : ∀ x : At (Below w3.heap.size w3), x.w.cell? ⟨w.heap.size + 1, 1, none⟩ = _ := fun x => (cells7 (xh x)).2.1
  have b2 : ∀ x : At (Below w3.heap.size w3), x.w.cell? ⟨w.heap.size + 1, 2, none⟩ = _ := fun x => (cells7 (xh x)).2.2.1
  have b3 : ∀ x : At (Below w3.heap.size w3), x.w.cell? ⟨w.heap.size + 1, 3, none⟩ = _ := fun x => (cells7 (xh x)).2.2.2.1
  have b4 : ∀ x : At (Below w3.heap.size w3), x.w.cell? ⟨w.heap.size + 1, 4, none⟩ = _ := fun x => (cells7 (xh x)).2.2.2.2.1
  have b5 : ∀ x : At (Below w3.heap.size w3), x.w.cell? ⟨w.heap.size + 1, 5, none⟩ = _ := fun x => (cells7 (xh x)).2.2.2.2.2.1
  have b6 : ∀ x : At (Below w3.heap.size w3), x.w.cell? ⟨w.heap.size + 1, 6, none⟩ = _ := fun x => (cells7 (xh x)).2.2.2.2.2.2
  have XE := Lib.hid xE
  have XI := Lib.hid xi
  have XJ := Lib.hid xj
  have hbb : (b == b) = true := beq_self_eq_true b
  clear xE xi xj xg xh hg hh hg3 hh3 hg1 hh1 c0 c1 c2 c3 c4 c5 c6 d0 d1 d2 d3 d4 d5 d6 hi4 hj4 hes hfs
  rcases HX.out with hx | ⟨hx, hy⟩ | ⟨hx, hy, hl⟩
  all_goals refine area_all (S := Below w3.heap.size w3) (by kernel_rfl) (by kernel_rfl) hS ?_
  all_goals repeat (go_big_quiet_step (first
    | (exact at_call (awake_any _ (XE.out _)) (fun e w' h => ⟨h.1, st _ _ h.2⟩))
    | (exact at_call (dsame_b f g p q es fs c d _ (XI.out _) (XJ.out _) HN.out HM.out b HB.out) (fun e w' h => ⟨h.1, st _ _ h.2⟩))
    | (exact at_call (same_b f g p q es fs c d _ (XI.out _) (XJ.out _) HN.out HM.out b HB.out) (fun e w' h => ⟨h.1, st _ _ h.2⟩))))
  all_goals refine wpQuiet_nil ?_
  all_goals intro w5 hw5
  all_goals go_wp2_with fail
  all_goals go_ret
  all_goals exact ⟨rfl, hb4.trans (hw5.mono (Nat.le_trans hz (Nat.le_trans hb1.size hb3.size)))⟩

theorem sames_any (f g : Nat → Int) (hf : ∀ k, k < 6 → I64 (f k)) (hg : ∀ k, k < 6 → I64 (g k)) (p q : Option Addr) (es fs : List Int) (c d : Nat) (w : World) (hE : Env w) (hes : IntsAt w p es) (hfs : IntsAt w q fs)
    (h64 : ∀ x ∈ es, I64 x) (h65 : ∀ x ∈ fs, I64 x) (hn : es.length ≤ 9223372036854775807) (hm : fs.length ≤ 9223372036854775807) :
    Calls Tryd.prog 8 #[.agg (scells f (.slice p es.length c)), .agg (scells g (.slice q fs.length d))] w fun e w' => e = .returned (.bool true) ∧ Below w.heap.size w w' := by
  by_cases h1 : 64 < es.length
  · by_cases h2 : 64 < fs.length
    · exact dsame_walk f g p q es fs c d w hE hes hfs hn hm ⟨#[]⟩ ⟨#[]⟩ 6 6 _ rfl (fun w' _ => write_full f p _ c w' h1) (fun w' _ => write_full g q _ d w' h2) (.inl rfl)
    · exact dsame_walk f g p q es fs c d w hE hes hfs hn hm ⟨#[]⟩ (lineB g fs) 6 0 _ rfl (fun w' _ => write_full f p _ c w' h1) (fun w' hb => write_line g hg q fs d w' (hE.below hb hE.size) (hfs.below hb (Nat.le_refl _)) h65 (by omega)) (.inl rfl)
  · by_cases h2 : 64 < fs.length
    · exact dsame_walk f g p q es fs c d w hE hes hfs hn hm (lineB f es) ⟨#[]⟩ 0 6 _ rfl (fun w' hb => write_line f hf p es c w' (hE.below hb hE.size) (hes.below hb (Nat.le_refl _)) h64 (by omega)) (fun w' _ => write_full g q _ d w' h2) (.inr (.inl ⟨rfl, rfl⟩))
    · exact dsame_walk f g p q es fs c d w hE hes hfs hn hm (lineB f es) (lineB g fs) 0 0 _ rfl (fun w' hb => write_line f hf p es c w' (hE.below hb hE.size) (hes.below hb (Nat.le_refl _)) h64 (by omega))
        (fun w' hb => write_line g hg q fs d w' (hE.below hb hE.size) (hfs.below hb (Nat.le_refl _)) h65 (by omega)) (.inr (.inr ⟨rfl, rfl, alikeB_line hf hg h64 h65 (by omega) (by omega)⟩))
end Go.Proofs.YtmadabecpgjpjaaDoor
