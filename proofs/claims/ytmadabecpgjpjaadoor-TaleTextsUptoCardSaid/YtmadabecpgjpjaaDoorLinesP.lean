/- The lines of a text, plain. -/
import Derived.Test.YtmadabecpgjpjaaDoorMath
import Derived.Lib.Bytealg
namespace Go.Proofs.YtmadabecpgjpjaaDoor

/-- The first line of a text, with its newline where there is one, and what is left. -/
def cutN : List UInt8 → List UInt8 × List UInt8
  | [] => ([], [])
  | c :: r => if c = 10 then ([c], r) else (c :: (cutN r).1, (cutN r).2)
theorem cutN_app : ∀ l, (cutN l).1 ++ (cutN l).2 = l
  | [] => rfl
  | c :: r => by
    unfold cutN
    split
    · rfl
    · simp [cutN_app r]
theorem cutN_less {l : List UInt8} (h : l ≠ []) : (cutN l).2.length < l.length := by
  cases l with
  | nil => exact absurd rfl h
  | cons c r =>
    unfold cutN
    split
    · simp
    · have := congrArg List.length (cutN_app r)
      simp only [List.length_append] at this
      simp only [List.length_cons]
      omega
/-- All lines, by at most so many steps. -/
def linesN : Nat → List UInt8 → List (List UInt8)
  | 0, _ => []
  | _ + 1, [] => []
  | k + 1, c :: r => (cutN (c :: r)).1 :: linesN k (cutN (c :: r)).2

theorem cutN_index : ∀ (l : List UInt8), (Lib.indexByte l 10 = -1 ∧ cutN l = (l, [])) ∨ ∃ i : Nat, Lib.indexByte l 10 = i ∧ i < l.length ∧ cutN l = (l.take (i + 1), l.drop (i + 1))
  | [] => .inl ⟨rfl, rfl⟩
  | c :: r => by
    by_cases hc : c = 10
    · subst hc
      exact .inr ⟨0, by simp [Lib.indexByte], by simp, by simp [cutN]⟩
    · have hb : (c == 10) = false := by simpa using hc
      rcases cutN_index r with ⟨h1, h2⟩ | ⟨i, h1, h2, h3⟩
      · exact .inl ⟨by simp [Lib.indexByte, hb, h1], by simp [cutN, hc, h2]⟩
      · refine .inr ⟨i + 1, ?_, by simp [h2], by simp [cutN, hc, h3]⟩
        have hn : ((i : Int) == -1) = false := by rw [beq_eq_false_iff_ne]; omega
        simp [Lib.indexByte, hb, h1, hn]
end Go.Proofs.YtmadabecpgjpjaaDoor
