/- offertorylaw26's own probe. -/
import Derived.Test.YtmadabecpgjpjaaDoorReadT
namespace Go.Proofs.YtmadabecpgjpjaaDoor
open Go Go.RowKit Go.Shelf

/-- The probe's text. -/
def awTxt : ByteArray := ⟨#[115, 116, 97, 114, 116, 10, 102, 97, 108, 108, 32, 50]⟩
theorem aw_lines : linesL awTxt.data.toList = [[115, 116, 97, 114, 116, 10], [102, 97, 108, 108, 32, 50]] := by kernel_rfl
theorem aw_step : stepT ⟨#[98, 101, 110, 100, 32, 51, 32, 45, 52]⟩ = some (5, 3, -4) := by kernel_rfl
theorem aw_one : stepT (trimL [115, 116, 97, 114, 116, 10]) = some (1, 0, 0) := by kernel_rfl
theorem aw_two : stepT (trimL [102, 97, 108, 108, 32, 50]) = some (7, 2, 0) := by kernel_rfl
theorem aw_got : gotL [[115, 116, 97, 114, 116, 10], [102, 97, 108, 108, 32, 50]] = [(1, 0, 0), (7, 2, 0)] := by
  unfold gotL
  simp only [List.filterMap_cons, aw_one, aw_two, List.filterMap_nil]
theorem aw_ok : okL [[115, 116, 97, 114, 116, 10], [102, 97, 108, 108, 32, 50]] := by
  intro l hl
  simp only [List.mem_cons, List.not_mem_nil, or_false] at hl
  rcases hl with rfl | rfl
  · rw [aw_one]; exact fun h => by cases h
  · rw [aw_two]; exact fun h => by cases h
theorem read_aw (w : World) (hE : Env w) :
    Calls Tryd.prog 14 #[.string awTxt] w fun e w' => ∃ p c, e = .returned (.tuple #[.slice p 2 c, .int .i64 0, .int .i64 0]) ∧ Below w.heap.size w w' := by
  refine (tread_few awTxt w hE (by decide)).mono ?_
  rintro e w' ⟨hb, ⟨pr, x, rest, hl, hok, hst, rfl⟩ | ⟨_, hl, rfl⟩ | ⟨_, _, v, rfl, hown⟩⟩
  · exfalso
    have := aw_ok x (by rw [← aw_lines, hl]; simp)
    exact this hst
  · rw [aw_lines] at hl
    simp at hl
  · rw [aw_lines, aw_got] at hown
    rcases hown.2 with ⟨_, h0⟩ | ⟨g, cap, _, rfl, _⟩
    · simp at h0
    · exact ⟨_, _, rfl, hb⟩
theorem line_aw (w : World) (hE : Env w) :
    Calls Tryd.prog 10 #[.agg #[.int .i64 6, .int .i64 7, .int .i64 0]] w fun e w' => e = .returned (.tuple #[.string ⟨#[116, 105, 99, 107, 32, 55]⟩, .int .i64 0]) ∧ Below w.heap.size w w' := by
  have h := tline_any 6 7 0 ⟨by decide, by decide⟩ ⟨by decide, by decide⟩ w hE
  have e1 : textT 6 7 0 = ⟨#[116, 105, 99, 107, 32, 55]⟩ := ByteArray.ext (by kernel_rfl)
  have e2 : errT 6 7 0 = 0 := by kernel_rfl
  rw [e1, e2] at h
  exact h
theorem step_aw (w : World) (hE : Env w) :
    Calls Tryd.prog 13 #[.string ⟨#[98, 101, 110, 100, 32, 51, 32, 45, 52]⟩] w fun e w' => e = .returned (.tuple #[.agg #[.int .i64 5, .int .i64 3, .int .i64 (-4)], .int .i64 0]) ∧ Below w.heap.size w w' :=
  step_yes _ w hE (by decide) 5 3 (-4) aw_step

set_option maxRecDepth 100000 in
set_option maxHeartbeats 1600000 in
theorem awake26 (w : World) (hE : Env w) :
    Calls Tryd.prog 12 #[] w fun e w' => e = .returned (.bool true) ∧ Below w.heap.size w w' := by
  have hz8 := hE.size
  go_enter Tryd.func12, Tryd.ntmps12
  go_upto_region 2 with (go_at_call 13; refine (step_aw _ hE).mono ?_; rintro e1 w1 ⟨rfl, hb1⟩)
  generalize hw2 : w1.alloc _ = w2
  have hb2 : Below w.heap.size w w2 := by rw [← hw2]; exact hb1.alloc hb1.size _
  have hg := World.alloc_heap_new w1 (.cells #[.int .i64 5, .int .i64 3, .int .i64 (-4)] 23)
  rw [hw2] at hg
  have hE2 := hE.below hb2 hz8
  have l1 := (Array.getElem?_eq_some_iff.1 hg).1
  clear hw2
  go_wp2_with (first
    | (go_at_call 10; refine (line_aw _ hE2).mono ?_; rintro e3 w3 ⟨rfl, hb3⟩; have hE3 := hE2.below hb3 hE2.size)
    | (go_at_call 14; refine (read_aw _ hE3).mono ?_; rintro e4 w4 ⟨p, c, rfl, hb4⟩; have hg4 := (hb4.block _ (Nat.lt_of_lt_of_le l1 hb3.size)).trans ((hb3.block _ l1).trans hg); have c0 := (Lib.cell_of_heap hg4 0).trans (show _ = some (Value.int .i64 5) from rfl); have c1 := (Lib.cell_of_heap hg4 1).trans (show _ = some (Value.int .i64 3) from rfl); have c2 := (Lib.cell_of_heap hg4 2).trans (show _ = some (Value.int .i64 (-4)) from rfl)))
  go_ret
  exact ⟨rfl, (hb2.trans (hb3.mono hb2.size)).trans (hb4.mono (Nat.le_trans hb2.size hb3.size))⟩
end Go.Proofs.YtmadabecpgjpjaaDoor
