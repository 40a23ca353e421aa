/-
  DERIVED. GIVEN WITH THE SEED: THE CARDS: each row of YtofaicocdijjgaaDoorRows.lean that lists a variable, with what it lists TIED to the program's text (the seventh form; the later family's looks); each row that meets fmt, with fmt's text TOLD by the authors' own Lean function (tested against real Go, not proved from fmt's source: count such statements apart). THE CARD IS WHAT COUNTS. Prove the row's statement (the work); the ties are given (YtofaicocdijjgaaDoorTie.lean); close each card by the builder's one call (the guide's Derived/Test/ToyasCard.lean, 'card_holds'). Laid BY PROGRAM, IN A SANDBOX (cutbox-door.mjs). By AI agents, Wed Nov 11 2026. No macro, syntax, notation, axiom, sorry.
-/
import Derived.Test.YtofaicocdijjgaaDoorRows
import GoSem.ClaimSeven
namespace Go.Proofs.YtofaicocdijjgaaDoor
namespace Rows

/-- THE TIED CARD OF 'lighteragelaw10.CutMay'. -/
def cutMayCard : Claim7 := { stood := { row := cutMayRow, standIns := [], harness := (true, "49b8ad92a7af10c5e45c145de030c877f54729bd7f184e8cfa010bbd0ea21972"), looks := false }, kinds := [], alts := [], laidByText := true, laidKinds := [.data], laidTests := true, laidLooks := .later }
def CutMayCardSaid : Prop := Claim7.holds Tryd.pinned (.plain (OpenSpec.ofChange cutMaySpec)) cutMayCard

/-- THE TIED CARD OF 'lighteragelaw10.CutSizes'. -/
def cutSizesCard : Claim7 := { stood := { row := cutSizesRow, standIns := [], harness := (true, "49b8ad92a7af10c5e45c145de030c877f54729bd7f184e8cfa010bbd0ea21972"), looks := false }, kinds := [], alts := [], laidByText := true, laidKinds := [.data], laidTests := true, laidLooks := .later }
def CutSizesCardSaid : Prop := Claim7.holds Tryd.pinned (.plain (OpenSpec.ofChange cutSizesSpec)) cutSizesCard

/-- THE SECOND FORM's CARD OF 'lighteragelaw10.CutMay'. -/
def cutMayUptoCard : Claim7 := { stood := { row := cutMayUptoRow, standIns := [], harness := (true, "49b8ad92a7af10c5e45c145de030c877f54729bd7f184e8cfa010bbd0ea21972"), looks := false }, kinds := [], alts := [], laidByText := true, laidKinds := [.data], laidTests := true, laidLooks := .later }
def CutMayUptoCardSaid : Prop := Claim7.holds Tryd.pinned (.plain (OpenSpec.upto cutMaySpec)) cutMayUptoCard

/-- THE SECOND FORM's CARD OF 'lighteragelaw10.CutSizes'. -/
def cutSizesUptoCard : Claim7 := { stood := { row := cutSizesUptoRow, standIns := [], harness := (true, "49b8ad92a7af10c5e45c145de030c877f54729bd7f184e8cfa010bbd0ea21972"), looks := false }, kinds := [], alts := [], laidByText := true, laidKinds := [.data], laidTests := true, laidLooks := .later }
def CutSizesUptoCardSaid : Prop := Claim7.holds Tryd.pinned (.plain (OpenSpec.upto cutSizesSpec)) cutSizesUptoCard
end Rows
end Go.Proofs.YtofaicocdijjgaaDoor
