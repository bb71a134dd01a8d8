/- What tale.Read reads of what tale.Write writes. -/
import Derived.Test.YtmadabecpgjpjaaDoorTextW
import Derived.Test.YtmadabecpgjpjaaDoorReadsP
namespace Go.Proofs.YtmadabecpgjpjaaDoor

theorem cutN_at : ∀ (l r : List UInt8), (10 : UInt8) ∉ l → cutN (l ++ 10 :: r) = (l ++ [10], r)
  | [], r, _ => by simp [cutN]
  | c :: l, r, h => by
    simp only [List.mem_cons, not_or] at h
    have := cutN_at l r h.2
    simp only [List.cons_append, cutN]
    rw [if_neg (fun e => h.1 e.symm), this]
theorem word_no (k : Int) : (10 : UInt8) ∉ (wordT k).data.toList := by
  unfold wordT
  repeat' split
  all_goals decide
theorem tail_no (f : Nat → Int) : ∀ n, (10 : UInt8) ∉ tailT f n
  | 0 => by simp [tailT]
  | n + 1 => by
    simp only [tailT, List.mem_append, List.mem_cons, not_or]
    refine ⟨tail_no f n, by decide, fun h => ?_⟩
    rcases itoa_signs (f n) 10 h with h1 | h1
    · exact absurd h1 (by decide)
    · simp [isDig] at h1
theorem line_no {t : Int × Int × Int} : (10 : UInt8) ∉ (lineS t).data.toList := by
  unfold lineS textT
  split
  · show (10 : UInt8) ∉ ((wordT t.1).data.toList ++ tailT (numsT t.2.1 t.2.2) (sizeT t.1)).toArray.toList
    rw [List.mem_append, not_or]
    exact ⟨word_no _, tail_no _ _⟩
  · simp
theorem lines_text : ∀ (ts : List (Int × Int × Int)), linesL (textS ts) = ts.map fun t => (lineS t).data.toList ++ [10]
  | [] => rfl
  | t :: ts => by
    have e : textS (t :: ts) = (lineS t).data.toList ++ 10 :: textS ts := by unfold textS; simp
    have hne : textS (t :: ts) ≠ [] := by rw [e]; simp
    rw [linesL_cons hne, e, cutN_at _ _ line_no]
    simp only [List.map_cons]
    rw [lines_text ts]
theorem trim_line (t : Int × Int × Int) : trimL ((lineS t).data.toList ++ [10]) = lineS t := by
  unfold trimL
  rw [trim_nl]
theorem step_line {t : Int × Int × Int} (h : okS t = true) (h6 : I64S t) : stepT (lineS t) = some t := step_text h6.2.1 h6.2.2 h
theorem ok_text {ts : List (Int × Int × Int)} (h : ∀ t ∈ ts, okS t = true) (h6 : ∀ t ∈ ts, I64S t) : okL (linesL (textS ts)) := by
  rw [lines_text]
  intro l hl
  obtain ⟨t, ht, rfl⟩ := List.mem_map.1 hl
  rw [trim_line, step_line (h t ht) (h6 t ht)]
  exact fun h => by cases h
theorem got_text : ∀ {ts : List (Int × Int × Int)}, (∀ t ∈ ts, okS t = true) → (∀ t ∈ ts, I64S t) → gotL (linesL (textS ts)) = ts
  | [], _, _ => rfl
  | t :: ts, h, h6 => by
    have ih := got_text (ts := ts) (fun x hx => h x (by simp [hx])) (fun x hx => h6 x (by simp [hx]))
    rw [lines_text] at ih ⊢
    unfold gotL at ih ⊢
    simp only [List.map_cons, List.filterMap_cons, trim_line, step_line (h t (by simp)) (h6 t (by simp)), ih]
end Go.Proofs.YtmadabecpgjpjaaDoor
