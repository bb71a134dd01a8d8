/- The first line of a text as the law TaleReads cuts it. -/
import Derived.Test.YtmadabecpgjpjaaDoorReadT
namespace Go.Proofs.YtmadabecpgjpjaaDoor

/-- Where the first newline stands; else the length. -/
def endN : List UInt8 → Nat
  | [] => 0
  | c :: r => if c = 10 then 0 else endN r + 1
theorem endN_le : ∀ l, endN l ≤ l.length
  | [] => Nat.le_refl _
  | c :: r => by
    unfold endN
    split
    · omega
    · have := endN_le r
      simp only [List.length_cons]
      omega
theorem endN_below : ∀ (l : List UInt8) (j : Nat) (h : j < l.length), j < endN l → l[j] ≠ 10
  | c :: r, 0, _, h => by
    unfold endN at h
    split at h
    · omega
    · simpa
  | c :: r, j + 1, hl, h => by
    unfold endN at h
    split at h
    · omega
    · simp only [List.length_cons] at hl
      have := endN_below r j (by omega) (by omega)
      simpa using this
theorem endN_at : ∀ (l : List UInt8) (h : endN l < l.length), l[endN l] = 10
  | c :: r, h => by
    by_cases hc : c = 10
    · subst hc
      simp [endN]
    · have e : endN (c :: r) = endN r + 1 := by simp [endN, hc]
      have h' := h
      rw [e, List.length_cons] at h'
      have := endN_at r (by omega)
      simp only [e, List.getElem_cons_succ, this]
theorem cutN_end : ∀ (l : List UInt8), (cutN l).1 = l.take (endN l + 1) ∧ (cutN l).2 = l.drop (endN l + 1)
  | [] => ⟨rfl, rfl⟩
  | c :: r => by
    by_cases hc : c = 10
    · simp [cutN, endN, hc]
    · have := cutN_end r
      simp [cutN, endN, hc, this.1, this.2]
theorem not_mem_take : ∀ (l : List UInt8), (10 : UInt8) ∉ l.take (endN l)
  | [] => by simp
  | c :: r => by
    by_cases hc : c = 10
    · simp [endN, hc]
    · have := not_mem_take r
      simp only [endN, if_neg hc, List.take_succ_cons, List.mem_cons, not_or]
      exact ⟨fun h => hc h.symm, this⟩
theorem trim_nl (l : List UInt8) : Lib.trimSuffix (l ++ [10]) [10] = l := by
  unfold Lib.trimSuffix Lib.hasSuffix
  simp
theorem trim_none (l : List UInt8) (h : (10 : UInt8) ∉ l) : Lib.trimSuffix l [10] = l := by
  unfold Lib.trimSuffix
  rw [if_neg]
  intro hs
  unfold Lib.hasSuffix at hs
  rw [List.isSuffixOf_iff_suffix] at hs
  exact h (hs.subset (by simp))
theorem trimL_cut (l : List UInt8) : trimL (cutN l).1 = ⟨(l.take (endN l)).toArray⟩ := by
  unfold trimL
  rw [(cutN_end l).1]
  congr 2
  by_cases h : endN l < l.length
  · rw [List.take_succ_eq_append_getElem h, endN_at l h, trim_nl]
  · have e : endN l = l.length := by have := endN_le l; omega
    rw [List.take_of_length_le (by omega), List.take_of_length_le (by omega)]
    refine trim_none l ?_
    have := not_mem_take l
    rwa [List.take_of_length_le (by omega)] at this
end Go.Proofs.YtmadabecpgjpjaaDoor
