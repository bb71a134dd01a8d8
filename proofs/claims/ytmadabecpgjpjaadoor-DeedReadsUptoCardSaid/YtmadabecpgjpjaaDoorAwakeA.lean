/- offertorylaw30's own probe. -/
import Derived.Test.YtmadabecpgjpjaaDoorSameD
import Derived.Test.YtmadabecpgjpjaaDoorPlain
namespace Go.Proofs.YtmadabecpgjpjaaDoor
open Go.RowKit

/-- The probe's numbers. -/
def awF : Nat → Int := nums 3 2 5 (-4) 11 6
theorem awF_i64 : ∀ k, k < 6 → I64 (awF k) := by
  intro k hk
  match k, hk with
  | 0, _ => exact ⟨by decide, by decide⟩
  | 1, _ => exact ⟨by decide, by decide⟩
  | 2, _ => exact ⟨by decide, by decide⟩
  | 3, _ => exact ⟨by decide, by decide⟩
  | 4, _ => exact ⟨by decide, by decide⟩
  | 5, _ => exact ⟨by decide, by decide⟩
theorem awE_i64 : ∀ x ∈ [(0 : Int), 5], I64 x := by
  intro x hx
  simp only [List.mem_cons, List.not_mem_nil, or_false] at hx
  rcases hx with rfl | rfl
  · exact ⟨by decide, by decide⟩
  · exact ⟨by decide, by decide⟩

theorem lineB_size (f : Nat → Int) (hf : ∀ k, k < 6 → I64 (f k)) (es : List Int) (h64 : ∀ x ∈ es, I64 x) (hn : es.length ≤ 64) : (lineB f es).size ≤ 1048576 := by
  have h := join_len ((lineWs f es).map (fun x => x.data.toList)) 21 (fun w hw => by
    obtain ⟨x, hx, rfl⟩ := List.mem_map.1 hw
    have := words_size f hf es h64 x hx
    show x.data.toList.length ≤ 21
    rw [Array.length_toList]; exact this)
  have e : (lineWs f es).length = 13 + es.length := words_list f es
  rw [List.length_map, e] at h
  unfold lineB
  rw [szlit]
  omega

theorem write_line (f : Nat → Int) (hf : ∀ k, k < 6 → I64 (f k)) (p : Option Addr) (es : List Int) (c : Nat) (w : World) (hE : Env w)
    (hes : IntsAt w p es) (h64 : ∀ x ∈ es, I64 x) (hn : es.length ≤ 64) :
    Calls Tryd.prog 15 #[.agg (scells f (.slice p es.length c))] w fun e' w' => e' = .returned (.tuple #[.string (lineB f es), .int .i64 0]) ∧ Below w.heap.size w w' :=
  write_any f hf p es c w hE hes h64 hn

theorem scells_trim (f : Nat → Int) (s : Value) : scells (trim f 6) s = scells f s := by simp [scells, trim]

theorem read_line (f : Nat → Int) (hf : ∀ k, k < 6 → I64 (f k)) (es : List Int) (w : World) (hE : Env w) (h64 : ∀ x ∈ es, I64 x) (hn : es.length ≤ 64) :
    Calls Tryd.prog 17 #[.string (lineB f es)] w fun e w' => ∃ p c, e = .returned (.tuple #[.agg #[.int .i64 (f 0), .int .i64 (f 1), .int .i64 (f 2), .int .i64 (f 3), .int .i64 (f 4), .int .i64 (f 5), .slice p es.length c], .int .i64 0]) ∧ IntsAt w' p es ∧ Below w.heap.size w w' := by
  refine (read_any (lineB f es) w hE (lineB_size f hf es h64 hn)).mono ?_
  intro e w' h
  rw [wordsOf_line, readS_line f hf es h64 hn] at h
  obtain ⟨hb, p, c, he, hi⟩ := h
  rw [scells_trim] at he
  exact ⟨p, c, he, hi, hb⟩

theorem line_line (f : Nat → Int) (hf : ∀ k, k < 6 → I64 (f k)) (p : Option Addr) (es : List Int) (c : Nat) (w : World)
    (hes : IntsAt w p es) (h64 : ∀ x ∈ es, I64 x) (hn : es.length ≤ 1048576) :
    Calls Tryd.prog 18 #[.agg (scells f (.slice p es.length c))] w fun e' w' => e' = .returned (.string (lineB f es)) ∧ Below w.heap.size w w' := by
  rw [lineB_eq]
  exact line_any (f 0) (f 1) (f 2) (f 3) (f 4) (f 5) (hf 0 (by decide)) (hf 1 (by decide)) (hf 2 (by decide)) (hf 3 (by decide)) (hf 4 (by decide)) (hf 5 (by decide)) p es c w hes h64 hn

theorem cells7 {w : World} {b : Nat} {f : Nat → Int} {s : Value} (h : w.heap[b]? = some (.cells (scells f s) 41 (0, 0))) :
    w.cell? ⟨b, 0, none⟩ = some (.int .i64 (f 0)) ∧ w.cell? ⟨b, 1, none⟩ = some (.int .i64 (f 1)) ∧ w.cell? ⟨b, 2, none⟩ = some (.int .i64 (f 2)) ∧ w.cell? ⟨b, 3, none⟩ = some (.int .i64 (f 3)) ∧
    w.cell? ⟨b, 4, none⟩ = some (.int .i64 (f 4)) ∧ w.cell? ⟨b, 5, none⟩ = some (.int .i64 (f 5)) ∧ w.cell? ⟨b, 6, none⟩ = some s :=
  ⟨(cell_of_heap h 0).trans rfl, (cell_of_heap h 1).trans rfl, (cell_of_heap h 2).trans rfl, (cell_of_heap h 3).trans rfl, (cell_of_heap h 4).trans rfl, (cell_of_heap h 5).trans rfl, (cell_of_heap h 6).trans rfl⟩

theorem two_ints (w : World) (x y : Int) (t : TypeId) : IntsAt (w.alloc (.cells #[.int .i64 x, .int .i64 y] t (0, 0))) (some ⟨w.heap.size, 0, none⟩) [x, y] := by
  refine Or.inr ⟨w.heap.size, 0, rfl, by simp, ?_⟩
  intro k hk
  match k, hk with
  | 0, _ => simp
  | 1, _ => simp
theorem second (w : World) (o1 o2 : Obj) : ((w.alloc o1).alloc o2).heap[w.heap.size + 1]? = some o2 := by
  simp only [World.alloc, Array.getElem?_push, Array.size_push]
  simp

theorem first_new (w : World) (o1 : Obj) : (w.alloc o1).heap[w.heap.size]? = some o1 := by
  simp only [World.alloc, Array.getElem?_push]
  simp

theorem first_of (w : World) (o1 o2 : Obj) : ((w.alloc o1).alloc o2).heap[w.heap.size]? = some o1 := by
  simp only [World.alloc, Array.getElem?_push, Array.size_push]
  simp

theorem alike_refl (f : Nat → Int) : alike6 f f = true := by simp [alike6]
theorem ints_refl (es : List Int) : (es == es) = true := by simp

theorem dsame_self (f : Nat → Int) (p q : Option Addr) (es : List Int) (c d : Nat) (w : World) (hes : IntsAt w p es) (hfs : IntsAt w q es) (hn : es.length ≤ 1048576) :
    Calls Tryd.prog 20 #[.agg (scells f (.slice p es.length c)), .agg (scells f (.slice q es.length d))] w fun e w' => e = .returned (.bool true) ∧ Below w.heap.size w w' := by
  have h := dsame_any f f p q es es c d w hes hfs (Nat.le_trans hn (by decide)) (Nat.le_trans hn (by decide))
  rw [alike_refl, ints_refl] at h
  exact h
theorem same_self (f : Nat → Int) (p q : Option Addr) (es : List Int) (c d : Nat) (w : World) (hes : IntsAt w p es) (hfs : IntsAt w q es) (hn : es.length ≤ 1048576) :
    Calls Tryd.prog 19 #[.agg (scells f (.slice p es.length c)), .agg (scells f (.slice q es.length d))] w fun e w' => e = .returned (.bool true) ∧ Below w.heap.size w w' := by
  have h := same_any f f p q es es c d w hes hfs (Nat.le_trans hn (by decide)) (Nat.le_trans hn (by decide))
  rw [alike_refl, ints_refl] at h
  simpa using h

theorem awLine : (lineB awF [0, 5]).data = #[100, 111, 110, 111, 114, 115, 32, 51, 32, 101, 110, 111, 117, 103, 104, 32, 50, 32, 119, 97, 105, 116, 32, 53, 32, 108, 111, 119, 32, 45, 52, 32, 104, 105, 103, 104, 32, 49, 49, 32, 109, 111, 115, 116, 32, 54, 32, 101, 100, 103, 101, 115, 32, 48, 32, 53] := by
  kernel_rfl

set_option maxRecDepth 100000 in
set_option maxHeartbeats 800000 in
theorem awake_any (w : World) (hE : Env w) :
    Calls Tryd.prog 16 #[] w fun e w' => e = .returned (.bool true) ∧ Below w.heap.size w w' := by
  have hz8 := hE.size
  go_enter Tryd.func16, Tryd.ntmps16
  go_upto_region 2 with fail
  generalize hw2 : (w.alloc (Obj.cells #[Value.int IntKind.i64 0, Value.int IntKind.i64 5] 3)).alloc (Obj.cells #[Value.int IntKind.i64 3, Value.int IntKind.i64 2, Value.int IntKind.i64 5, Value.int IntKind.i64 (-4), Value.int IntKind.i64 11, Value.int IntKind.i64 6, Value.slice (some { block := w.heap.size, off := 0 }) 2 2] 41) = w2
  have hb : Below w.heap.size w w2 := by rw [← hw2]; exact ((Below.refl _ w).alloc (Nat.le_refl _) _).alloc (by simp) _
  have hi : IntsAt w2 (some ⟨w.heap.size, 0, none⟩) [0, 5] := by rw [← hw2]; exact (two_ints w _ _ _).below ((Below.refl _ _).alloc (by simp) _) (Nat.le_refl _)
  have hg : w2.heap[w.heap.size + 1]? = some (.cells (scells awF (.slice (some ⟨w.heap.size, 0, none⟩) 2 2)) 41 (0, 0)) := by
    rw [← hw2]
    exact second w _ _
  have l1 := (Array.getElem?_eq_some_iff.1 hg).1
  have hE2 := hE.below hb hz8
  obtain ⟨c0, c1, c2, c3, c4, c5, c6⟩ := cells7 hg
  clear hw2
  go_upto_region 4 with (first
    | (go_at_call 15; refine (write_line awF awF_i64 _ [0, 5] 2 _ hE2 hi awE_i64 (by decide)).mono ?_; rintro e1 w1 ⟨rfl, hb1⟩; have hE3 := hE2.below hb1 hE2.size; have hg3 := (hb1.block _ l1).trans hg)
    | (go_at_call 17; refine (read_line awF awF_i64 [0, 5] _ hE3 awE_i64 (by decide)).mono ?_; rintro e2 w3 ⟨p, c, rfl, hi3, hb3⟩; have hg4 := (hb3.block _ (Array.getElem?_eq_some_iff.1 hg3).1).trans hg3))
  generalize hw4 : w3.alloc _ = w4
  have hb4 : Below w3.heap.size w3 w4 := by rw [← hw4]; exact (Below.refl _ _).alloc (Nat.le_refl _) _
  have hg5 := (hb4.block _ (Array.getElem?_eq_some_iff.1 hg4).1).trans hg4
  have hr5 : w4.heap[w3.heap.size]? = some (.cells (scells awF (.slice p 2 c)) 41 (0, 0)) := by rw [← hw4]; exact first_new w3 _
  obtain ⟨c0, c1, c2, c3, c4, c5, c6⟩ := cells7 hg5
  obtain ⟨d0, d1, d2, d3, d4, d5, d6⟩ := cells7 hr5
  have hi5 := (hi.below hb1 (Nat.le_refl _)).below hb3 (Nat.le_refl _) |>.below hb4 (Nat.le_refl _)
  have hj5 := hi3.below hb4 (Nat.le_refl _)
  have hq : (lineB awF [0, 5]).toList = [100, 111, 110, 111, 114, 115, 32, 51, 32, 101, 110, 111, 117, 103, 104, 32, 50, 32, 119, 97, 105, 116, 32, 53, 32, 108, 111, 119, 32, 45, 52, 32, 104, 105, 103, 104, 32, 49, 49, 32, 109, 111, 115, 116, 32, 54, 32, 101, 100, 103, 101, 115, 32, 48, 32, 53] := by
    rw [show lineB awF [0, 5] = ⟨#[100, 111, 110, 111, 114, 115, 32, 51, 32, 101, 110, 111, 117, 103, 104, 32, 50, 32, 119, 97, 105, 116, 32, 53, 32, 108, 111, 119, 32, 45, 52, 32, 104, 105, 103, 104, 32, 49, 49, 32, 109, 111, 115, 116, 32, 54, 32, 101, 100, 103, 101, 115, 32, 48, 32, 53]⟩ from ByteArray.ext awLine]; simp
  have hz := hb.size
  clear hw4 hg hg3 hg4 hg5 hr5
  generalize lineB awF [0, 5] = L at hq ⊢
  go_wp2_with (go_at_call 20; refine (dsame_self awF _ _ [0, 5] 2 c _ hi5 hj5 (by decide)).mono ?_; rintro e5 w5 ⟨rfl, hb5⟩)
  go_ret
  exact ⟨rfl, (((hb.trans (hb1.mono hz)).trans (hb3.mono (Nat.le_trans hz hb1.size))).trans (hb4.mono (Nat.le_trans hz (Nat.le_trans hb1.size hb3.size)))).trans (hb5.mono (Nat.le_trans hz (Nat.le_trans hb1.size (Nat.le_trans hb3.size hb4.size))))⟩
end Go.Proofs.YtmadabecpgjpjaaDoor
