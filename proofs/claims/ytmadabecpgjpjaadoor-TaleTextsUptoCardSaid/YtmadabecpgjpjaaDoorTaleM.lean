/- The words of a step's line. -/
import Derived.Test.YtmadabecpgjpjaaDoorTaleL
import Derived.Test.YtmadabecpgjpjaaDoorTaleP
import Derived.Test.YtmadabecpgjpjaaDoorPlain
namespace Go.Proofs.YtmadabecpgjpjaaDoor
open Go.RowKit

/-- The numbers that the words behind the first one spell; the rest are 0. -/
def readT (xs : List ByteArray) (n : Nat) : Nat → Int := fun j => if j < n then (atoiV (xs.getD (j + 1) ⟨#[]⟩).data.toList).1 else 0
/-- Whether a line is one of kind k. -/
def fitsT (s : ByteArray) (k : Int) : Bool :=
  wordT k == (wordsOf s).getD 0 ⟨#[]⟩ && (wordsOf s).length == sizeT k + 1 && lineT (wordT k) (sizeT k) (readT (wordsOf s) (sizeT k) 0) (readT (wordsOf s) (sizeT k) 1) == s

theorem wordT_noBlank (k : Int) : NoBlank (wordT k).data.toList := by
  unfold wordT
  split <;> (intro c hc; revert c; decide)

theorem beq_bytes {a b : ByteArray} (h : (a == b) = true) : a = b := by
  rw [beq_toListBytes] at h
  exact toList_inj (by simpa using h)

/-- The words of a line. -/
def listT (wd : ByteArray) (a b : Int) : Nat → List ByteArray
  | 0 => [wd]
  | 1 => [wd, dg a]
  | _ => [wd, dg a, dg b]
theorem words_lineT (wd : ByteArray) (n : Nat) (a b : Int) (hn : n ≤ 2) (hw : NoBlank wd.data.toList) : wordsOf (lineT wd n a b) = listT wd a b n := by
  apply data_inj
  rw [wordsOf_data]
  unfold lineT
  rw [List.toList_toArray]
  match n, hn with
  | 0, _ => simp [tailT, listT, cutW_none hw]
  | 1, _ => simp [tailT, listT, numsT, cutW_app _ hw, cutW_none (itoa_noBlank a), dg]
  | 2, _ => simp [tailT, listT, numsT, cutW_app _ hw, cutW_app _ (itoa_noBlank a), cutW_none (itoa_noBlank b), dg]
theorem plain_dg (n : Int) : PlainA (dg n) := plain_itoa n
theorem readT_i64 (xs : List ByteArray) (n j : Nat) : I64 (readT xs n j) := by
  unfold readT
  split
  · exact atoiV_i64 _
  · exact ⟨by decide, by decide⟩

theorem fits_plain {s : ByteArray} {k : Int} (h : fitsT s k = true) : ∀ t, t < sizeT k → PlainA ((wordsOf s).getD (t + 1) ⟨#[]⟩) := by
  unfold fitsT at h
  rw [Bool.and_eq_true] at h
  have e := beq_bytes h.2
  have w1 := words_lineT (wordT k) (sizeT k) (readT (wordsOf s) (sizeT k) 0) (readT (wordsOf s) (sizeT k) 1) (sizeT_le k) (wordT_noBlank k)
  rw [e] at w1
  intro t ht
  rw [w1]
  have h2 := sizeT_le k
  generalize sizeT k = n at ht h2 ⊢
  match n, t, ht, h2 with
  | 1, 0, _, _ => exact plain_dg _
  | 2, 0, _, _ => exact plain_dg _
  | 2, 1, _, _ => exact plain_dg _
end Go.Proofs.YtmadabecpgjpjaaDoor
