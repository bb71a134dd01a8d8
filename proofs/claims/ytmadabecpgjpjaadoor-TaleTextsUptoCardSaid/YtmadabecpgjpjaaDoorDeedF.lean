/- deed.fields. -/
import Derived.Test.YtmadabecpgjpjaaDoorLineA
import Derived.StillTailTactics
import Derived.OwnWalk
namespace Go.Proofs.YtmadabecpgjpjaaDoor
open Go.RowKit

theorem own_below {B : Nat} {e : TypeId} {k : Nat} {v : Value} {n : Nat} {xs : List Value} {w w' : World} (h : w.ownsRow B e k v n xs) (hb : Below w.heap.size w w') : w'.ownsRow B e k v n xs :=
  h.kept (row := none) ⟨hb.os, hb.tape, hb.output, hb.size, fun j hj _ => hb.block j hj⟩ (by cases hv : v.ownBlock <;> simp)

/-- The words of the six numbers, and the seventh. -/
def nmB : Nat → ByteArray
  | 0 => ⟨#[100, 111, 110, 111, 114, 115]⟩
  | 1 => ⟨#[101, 110, 111, 117, 103, 104]⟩
  | 2 => ⟨#[119, 97, 105, 116]⟩
  | 3 => ⟨#[108, 111, 119]⟩
  | 4 => ⟨#[104, 105, 103, 104]⟩
  | 5 => ⟨#[109, 111, 115, 116]⟩
  | _ => ⟨#[101, 100, 103, 101, 115]⟩

/-- What deed.fields lays. -/
def fcells (b : Nat) : Array Value :=
  #[.string (nmB 0), .pointer (some ⟨b, 0, none⟩), .string (nmB 1), .pointer (some ⟨b, 1, none⟩), .string (nmB 2), .pointer (some ⟨b, 2, none⟩),
    .string (nmB 3), .pointer (some ⟨b, 3, none⟩), .string (nmB 4), .pointer (some ⟨b, 4, none⟩), .string (nmB 5), .pointer (some ⟨b, 5, none⟩)]
theorem fcells_word (b k : Nat) (h : k < 6) : (fcells b)[k * 2]? = some (.string (nmB k)) := by
  match k, h with
  | 0, _ => rfl
  | 1, _ => rfl
  | 2, _ => rfl
  | 3, _ => rfl
  | 4, _ => rfl
  | 5, _ => rfl
theorem fcells_at (b k : Nat) (h : k < 6) : (fcells b)[k * 2 + 1]? = some (.pointer (some ⟨b, k, none⟩)) := by
  match k, h with
  | 0, _ => rfl
  | 1, _ => rfl
  | 2, _ => rfl
  | 3, _ => rfl
  | 4, _ => rfl
  | 5, _ => rfl

set_option maxRecDepth 100000 in
set_option maxHeartbeats 400000 in
theorem fields_any (b : Nat) (w : World) :
    Calls Tryd.prog 30 #[.pointer (some ⟨b, 0, none⟩)] w fun e w' => e = .returned (.slice (some ⟨w.heap.size, 0, none⟩) 6 6) ∧ w' = (w.alloc (.cells (fcells b) 72)).drew := by
  go_enter Tryd.func30, Tryd.ntmps30
  go_wp2
  go_still_tail 27, (by kernel_rfl)
  change wpList _ _ _ _ _ w.drew
  go_wp2
  go_ret
  exact ⟨rfl, rfl⟩

end Go.Proofs.YtmadabecpgjpjaaDoor
