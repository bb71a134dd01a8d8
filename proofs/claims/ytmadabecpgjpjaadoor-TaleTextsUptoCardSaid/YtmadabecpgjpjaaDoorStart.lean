/- A start for the witnesses. -/
import Derived.Test.YtmadabecpgjpjaaDoorRowA
import Derived.Deep.DeepWitnessRowRef
namespace Go.Proofs.YtmadabecpgjpjaaDoor
open Go.ChangeShapes Go.WideShapes Go.ChangeAt Go.RowKit

/-- What the door's own run leaves, and the pinned table. -/
noncomputable def startW (os : Os) : World :=
  { World.doorLaid Tryd.prog 400 os with heap := (World.doorLaid Tryd.prog 400 os).heap.modify 4 fun
      | .cells _ t frozen => .cells (Pinned.utf8FirstZ.map fun (n : Nat) => Value.int .u8 (n : Int)).toArray t frozen
      | o => o }
set_option maxRecDepth 100000 in
theorem start_met (os : Os) (args : Array Value) : laidMet Tryd.prog laidAll ((startW os).forCall (fun _ _ => 0) ⟨#[], args, []⟩).memory :=
  laidMet_of_run' 12 (by kernel_rfl) (by kernel_rfl)
theorem start_metH (os : Os) (args : Array Value) : laidMetH Tryd.prog laidAll ((startW os).forCall (fun _ _ => 0) ⟨#[], args, []⟩).memory := by
  rw [laid_plain]; exact start_met os args
set_option maxRecDepth 100000 in
theorem start_vars (os : Os) (args : Array Value) : ((startW os).forCall (fun _ _ => 0) ⟨#[], args, []⟩).variablesRefB Tryd.prog = true := by kernel_rfl
set_option maxRecDepth 100000 in
theorem start_rest (os : Os) (args : Array Value) : (((startW os).forCall (fun _ _ => 0) ⟨#[], args, []⟩).heap.toList.drop Tryd.prog.globals.size).take ((begin Tryd.prog (fun _ _ => 0) default).world.heap.size - Tryd.prog.globals.size) =
      (begin Tryd.prog (fun _ _ => 0) default).world.heap.toList.drop Tryd.prog.globals.size := by kernel_rfl
end Go.Proofs.YtmadabecpgjpjaaDoor
