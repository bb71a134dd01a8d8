/- What tale.Step reads of what tale.Line writes, and what it reads at all. -/
import Derived.Test.YtmadabecpgjpjaaDoorTaleS
import Derived.Test.YtmadabecpgjpjaaDoorTaleR
namespace Go.Proofs.YtmadabecpgjpjaaDoor
open Go.RowKit

theorem isT_vals {k : Int} (h : isT k = true) : k = 1 ∨ k = 2 ∨ k = 3 ∨ k = 4 ∨ k = 5 ∨ k = 6 ∨ k = 7 := by simp [isT] at h; omega
theorem wordT_inj {k l : Int} (hk : isT k = true) (hl : isT l = true) (h : wordT k = wordT l) : k = l := by
  have e : (wordT k).data.toList = (wordT l).data.toList := by rw [h]
  rcases isT_vals hk with rfl | rfl | rfl | rfl | rfl | rfl | rfl <;> rcases isT_vals hl with rfl | rfl | rfl | rfl | rfl | rfl | rfl <;> first | rfl | (revert e; decide)

theorem bytes_beq (a : ByteArray) : (a == a) = true := by rw [beq_toListBytes]; simp
theorem listT_first (wd : ByteArray) (a b : Int) : ∀ n, (listT wd a b n).getD 0 ⟨#[]⟩ = wd
  | 0 => rfl
  | 1 => rfl
  | _ + 2 => rfl
theorem listT_len (wd : ByteArray) (a b : Int) : ∀ n, n ≤ 2 → (listT wd a b n).length = n + 1
  | 0, _ => rfl
  | 1, _ => rfl
  | 2, _ => rfl
theorem readT_list (wd : ByteArray) {a b : Int} (ha : I64 a) (hb : I64 b) : ∀ n, n ≤ 2 → (0 < n ∨ a = 0) → (1 < n ∨ b = 0) → readT (listT wd a b n) n 0 = a ∧ readT (listT wd a b n) n 1 = b
  | 0, _, h1, h2 => by
    have e1 : a = 0 := by omega
    have e2 : b = 0 := by omega
    subst e1 e2
    exact ⟨rfl, rfl⟩
  | 1, _, _, h2 => by
    have e2 : b = 0 := by omega
    subst e2
    exact ⟨by simp [readT, listT, atoiV_dg ha], by simp [readT]⟩
  | 2, _, _, _ => ⟨by simp [readT, listT, atoiV_dg ha], by simp [readT, listT, atoiV_dg hb]⟩
theorem okT_parts {k a b : Int} (h : okT k a b 2 = true) : isT k = true ∧ (0 < sizeT k ∨ a = 0) ∧ (1 < sizeT k ∨ b = 0) := by
  rw [okT_two] at h
  simp only [Bool.and_eq_true, Bool.or_eq_true, decide_eq_true_eq, beq_iff_eq] at h
  exact ⟨h.1.1, by omega, by omega⟩

theorem fits_line {k a b : Int} (ha : I64 a) (hb : I64 b) (h : okT k a b 2 = true) :
    fitsT (textT k a b) k = true ∧ readT (wordsOf (textT k a b)) (sizeT k) 0 = a ∧ readT (wordsOf (textT k a b)) (sizeT k) 1 = b := by
  obtain ⟨_, h1, h2⟩ := okT_parts h
  rw [(textT_yes h).1]
  have w1 := words_lineT (wordT k) (sizeT k) a b (sizeT_le k) (wordT_noBlank k)
  obtain ⟨r0, r1⟩ := readT_list (wordT k) ha hb (sizeT k) (sizeT_le k) h1 h2
  unfold fitsT
  rw [w1, r0, r1, listT_first, listT_len _ _ _ _ (sizeT_le k), bytes_beq, bytes_beq]
  exact ⟨by simp, rfl, rfl⟩

theorem fits_only {s : ByteArray} {k l : Int} (hk : isT k = true) (hl : isT l = true) (h1 : fitsT s k = true) (h2 : fitsT s l = true) : k = l := by
  unfold fitsT at h1 h2
  simp only [Bool.and_eq_true] at h1 h2
  exact wordT_inj hk hl ((beq_bytes h1.1.1).trans (beq_bytes h2.1.1).symm)

theorem fits_sound {s : ByteArray} {k : Int} (hk : isT k = true) (h : fitsT s k = true) :
    okT k (readT (wordsOf s) (sizeT k) 0) (readT (wordsOf s) (sizeT k) 1) 2 = true ∧ textT k (readT (wordsOf s) (sizeT k) 0) (readT (wordsOf s) (sizeT k) 1) = s := by
  have hok : okT k (readT (wordsOf s) (sizeT k) 0) (readT (wordsOf s) (sizeT k) 1) 2 = true := by
    rw [okT_two, hk]
    simp only [Bool.true_and, Bool.and_eq_true, Bool.or_eq_true, decide_eq_true_eq, beq_iff_eq]
    refine ⟨?_, ?_⟩
    · by_cases h0 : 0 < sizeT k
      · exact .inl (by omega)
      · exact .inr (by simp [readT, h0])
    · by_cases h0 : 1 < sizeT k
      · exact .inl (by omega)
      · exact .inr (by simp [readT, h0])
  refine ⟨hok, ?_⟩
  rw [(textT_yes hok).1]
  unfold fitsT at h
  simp only [Bool.and_eq_true] at h
  exact beq_bytes h.2
end Go.Proofs.YtmadabecpgjpjaaDoor
