import Derived.Test.YtofaicocdijjgaaDoorOpen
import Derived.Test.YtofaicocdijjgaaDoorTie
import Derived.Test.YtofaicocdijjgaaDoorCards
import Derived.LaidMore
import Derived.Stop.Joined
import Derived.SevenTiedAt
namespace Go.Proofs.YtofaicocdijjgaaDoor
open Go.ChangeShapes Go.WideShapes Go.ChangeAt Go.RowKit

/-- what the rows list: the table of cube roots -/
abbrev laidL {H : Type} : List (String × DataW H) := [("lighterage/sha.roots", Rows.laid_lighterage_sha_roots)]
/-- the door's own heap meets the condition -/
theorem door_met (os : Os) (args : Array Value) : laidMetH Tryd.prog laidL ((World.doorLaid Tryd.prog 400 os).forCall (fun _ _ => 0) ⟨#[], args, []⟩).memory :=
  laidMetH_of_parts3 (fuel := 8) (laidMet_of_run' 8 (by kernel_rfl) (by kernel_rfl)) (by kernel_rfl) (by kernel_rfl)
end Go.Proofs.YtofaicocdijjgaaDoor
