/- offertorylaw26's own line, for every kind. -/
import Derived.Test.YtmadabecpgjpjaaDoorTaleQ
namespace Go.Proofs.YtmadabecpgjpjaaDoor
open Go.RowKit
theorem line26_yes (k a b : Int) (ha : I64 a) (hb : I64 b) (hk : isT k = true) (w : World) :
    Calls Tryd.prog 11 #[.agg #[.int .i64 k, .int .i64 a, .int .i64 b]] w fun e w' => e = .returned (.tuple #[.string (lineT (wordT k) (sizeT k) a b), .bool (okT k a b 2)]) ∧ Below w.heap.size w w' := by
  have hv : k = 1 ∨ k = 2 ∨ k = 3 ∨ k = 4 ∨ k = 5 ∨ k = 6 ∨ k = 7 := by simp [isT] at hk; omega
  rw [okT_two]
  rcases hv with rfl | rfl | rfl | rfl | rfl | rfl | rfl
  · exact (line26_1 a b ha hb w).mono fun e w' ⟨he, hw⟩ => ⟨by rw [he]; simp [isT, sizeT, wordT], hw⟩
  · exact (line26_2 a b ha hb w).mono fun e w' ⟨he, hw⟩ => ⟨by rw [he]; simp [isT, sizeT, wordT], hw⟩
  · exact (line26_3 a b ha hb w).mono fun e w' ⟨he, hw⟩ => ⟨by rw [he]; simp [isT, sizeT, wordT], hw⟩
  · exact (line26_4 a b ha hb w).mono fun e w' ⟨he, hw⟩ => ⟨by rw [he]; simp [isT, sizeT, wordT], hw⟩
  · exact (line26_5 a b ha hb w).mono fun e w' ⟨he, hw⟩ => ⟨by rw [he]; simp [isT, sizeT, wordT], hw⟩
  · exact (line26_6 a b ha hb w).mono fun e w' ⟨he, hw⟩ => ⟨by rw [he]; simp [isT, sizeT, wordT], hw⟩
  · exact (line26_7 a b ha hb w).mono fun e w' ⟨he, hw⟩ => ⟨by rw [he]; simp [isT, sizeT, wordT], hw⟩
end Go.Proofs.YtmadabecpgjpjaaDoor
