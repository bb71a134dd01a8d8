/- tale.forms, form.write. -/
import Derived.Test.YtmadabecpgjpjaaDoorBuildA
import Derived.Test.YtmadabecpgjpjaaDoorLineA
namespace Go.Proofs.YtmadabecpgjpjaaDoor
open Go.RowKit

/-- The word of a kind. -/
def wordT : Int → ByteArray
  | 1 => ⟨#[115, 116, 97, 114, 116]⟩
  | 2 => ⟨#[98, 114, 105, 110, 103]⟩
  | 3 => ⟨#[108, 111, 115, 101]⟩
  | 4 => ⟨#[116, 119, 105, 110]⟩
  | 5 => ⟨#[98, 101, 110, 100]⟩
  | 6 => ⟨#[116, 105, 99, 107]⟩
  | 7 => ⟨#[102, 97, 108, 108]⟩
  | _ => ⟨#[]⟩
/-- How many numbers a kind has. -/
def sizeT : Int → Nat
  | 2 => 1 | 3 => 1 | 4 => 1 | 5 => 2 | 6 => 1 | 7 => 1 | _ => 0
/-- Whether it is a kind. -/
def isT (k : Int) : Bool := decide (1 ≤ k) && decide (k ≤ 7)

set_option maxRecDepth 100000 in
set_option maxHeartbeats 1600000 in
theorem forms_any (k : Int) (w : World) :
    Calls Tryd.prog 22 #[.int .i64 k] w fun e w' => e = .returned (.tuple #[.agg #[.string (wordT k), .int .i64 (sizeT k)], .bool (isT k)]) ∧ Below w.heap.size w w' := by
  have hz : ∀ o, Below w.heap.size w (w.alloc o) := fun o => (Below.refl _ w).alloc (Nat.le_refl _) _
  have Hz := Lib.hid hz
  clear hz
  by_cases h1 : k = 1
  · subst h1
    go_enter Tryd.func22, Tryd.ntmps22
    go_wp2
    refine bodyPost_ret (v := .tuple #[.agg #[.string ⟨#[115, 116, 97, 114, 116]⟩, .int .i64 0], .bool true]) (by simp [results, Tryd.results22, go_sem]) rfl ?_
    exact ⟨rfl, Hz.out _⟩
  by_cases h2 : k = 2
  · subst h2
    go_enter Tryd.func22, Tryd.ntmps22
    go_wp2
    refine bodyPost_ret (v := .tuple #[.agg #[.string ⟨#[98, 114, 105, 110, 103]⟩, .int .i64 1], .bool true]) (by simp [results, Tryd.results22, go_sem]) rfl ?_
    exact ⟨rfl, Hz.out _⟩
  by_cases h3 : k = 3
  · subst h3
    go_enter Tryd.func22, Tryd.ntmps22
    go_wp2
    refine bodyPost_ret (v := .tuple #[.agg #[.string ⟨#[108, 111, 115, 101]⟩, .int .i64 1], .bool true]) (by simp [results, Tryd.results22, go_sem]) rfl ?_
    exact ⟨rfl, Hz.out _⟩
  by_cases h4 : k = 4
  · subst h4
    go_enter Tryd.func22, Tryd.ntmps22
    go_wp2
    refine bodyPost_ret (v := .tuple #[.agg #[.string ⟨#[116, 119, 105, 110]⟩, .int .i64 1], .bool true]) (by simp [results, Tryd.results22, go_sem]) rfl ?_
    exact ⟨rfl, Hz.out _⟩
  by_cases h5 : k = 5
  · subst h5
    go_enter Tryd.func22, Tryd.ntmps22
    go_wp2
    refine bodyPost_ret (v := .tuple #[.agg #[.string ⟨#[98, 101, 110, 100]⟩, .int .i64 2], .bool true]) (by simp [results, Tryd.results22, go_sem]) rfl ?_
    exact ⟨rfl, Hz.out _⟩
  by_cases h6 : k = 6
  · subst h6
    go_enter Tryd.func22, Tryd.ntmps22
    go_wp2
    refine bodyPost_ret (v := .tuple #[.agg #[.string ⟨#[116, 105, 99, 107]⟩, .int .i64 1], .bool true]) (by simp [results, Tryd.results22, go_sem]) rfl ?_
    exact ⟨rfl, Hz.out _⟩
  by_cases h7 : k = 7
  · subst h7
    go_enter Tryd.func22, Tryd.ntmps22
    go_wp2
    refine bodyPost_ret (v := .tuple #[.agg #[.string ⟨#[102, 97, 108, 108]⟩, .int .i64 1], .bool true]) (by simp [results, Tryd.results22, go_sem]) rfl ?_
    exact ⟨rfl, Hz.out _⟩
  have e1 : (k == 1) = false := by simpa using h1
  have e2 : (k == 2) = false := by simpa using h2
  have e3 : (k == 3) = false := by simpa using h3
  have e4 : (k == 4) = false := by simpa using h4
  have e5 : (k == 5) = false := by simpa using h5
  have e6 : (k == 6) = false := by simpa using h6
  have e7 : (k == 7) = false := by simpa using h7
  have ew : wordT k = ⟨#[]⟩ := by
    unfold wordT
    split <;> first | contradiction | rfl
  have es : sizeT k = 0 := by
    unfold sizeT
    split <;> first | contradiction | rfl
  have ei : isT k = false := by
    unfold isT
    simp
    omega
  rw [ew, es, ei]
  clear ew es ei h1 h2 h3 h4 h5 h6 h7
  go_enter Tryd.func22, Tryd.ntmps22
  go_wp2
  refine bodyPost_ret (v := .tuple #[.agg #[.string ⟨#[]⟩, .int .i64 0], .bool false]) (by simp [results, Tryd.results22, go_sem]) rfl ?_
  exact ⟨rfl, Hz.out _⟩
end Go.Proofs.YtmadabecpgjpjaaDoor
