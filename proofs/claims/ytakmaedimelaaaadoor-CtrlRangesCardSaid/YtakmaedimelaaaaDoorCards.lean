/-
  DERIVED. GIVEN WITH THE SEED: THE CARDS: each row of YtakmaedimelaaaaDoorRows.lean that lists a variable, with what it lists TIED to the program's text (the seventh form; the later family's looks); each row that meets fmt, with fmt's text TOLD by the authors' own Lean function (tested against real Go, not proved from fmt's source: count such statements apart). THE CARD IS WHAT COUNTS. Prove the row's statement (the work); the ties are given (YtakmaedimelaaaaDoorTie.lean); close each card by the builder's one call (the guide's Derived/Test/ToyasCard.lean, 'card_holds'). Laid BY PROGRAM, IN A SANDBOX (cutbox-door.mjs). By AI agents, Wed Nov 11 2026. No macro, syntax, notation, axiom, sorry.
-/
import Derived.Test.YtakmaedimelaaaaDoorRows
import GoSem.ClaimSeven
namespace Go.Proofs.YtakmaedimelaaaaDoor
namespace Rows

/-- THE TIED CARD OF 'larderlaw05.CtrlRanges'. -/
def ctrlRangesCard : Claim7 := { stood := { row := ctrlRangesRow, standIns := [], harness := (true, "0b9de0dd84034b9a6f48cadad435ad8824156a12b7ecff655edd30c0b8e335a4"), looks := false }, kinds := [], alts := [], laidByText := true, laidKinds := [.data], laidTests := true, laidLooks := .later }
def CtrlRangesCardSaid : Prop := Claim7.holds Tryd.pinned (.plain (OpenSpec.ofChange ctrlRangesSpec)) ctrlRangesCard

/-- THE TIED CARD OF 'larderlaw05.CtrlLives'. -/
def ctrlLivesCard : Claim7 := { stood := { row := ctrlLivesRow, standIns := [], harness := (true, "0b9de0dd84034b9a6f48cadad435ad8824156a12b7ecff655edd30c0b8e335a4"), looks := false }, kinds := [], alts := [], laidByText := true, laidKinds := [.data], laidTests := true, laidLooks := .later }
def CtrlLivesCardSaid : Prop := Claim7.holds Tryd.pinned (.plain (OpenSpec.ofChange ctrlLivesSpec)) ctrlLivesCard

/-- THE TIED CARD OF 'larderlaw05.CtrlExact'. -/
def ctrlExactCard : Claim7 := { stood := { row := ctrlExactRow, standIns := [], harness := (true, "0b9de0dd84034b9a6f48cadad435ad8824156a12b7ecff655edd30c0b8e335a4"), looks := false }, kinds := [], alts := [], laidByText := true, laidKinds := [.data], laidTests := true, laidLooks := .later }
def CtrlExactCardSaid : Prop := Claim7.holds Tryd.pinned (.plain (OpenSpec.ofChange ctrlExactSpec)) ctrlExactCard

/-- THE SECOND FORM's CARD OF 'larderlaw05.CtrlRanges'. -/
def ctrlRangesUptoCard : Claim7 := { stood := { row := ctrlRangesUptoRow, standIns := [], harness := (true, "0b9de0dd84034b9a6f48cadad435ad8824156a12b7ecff655edd30c0b8e335a4"), looks := false }, kinds := [], alts := [], laidByText := true, laidKinds := [.data], laidTests := true, laidLooks := .later }
def CtrlRangesUptoCardSaid : Prop := Claim7.holds Tryd.pinned (.plain (OpenSpec.upto ctrlRangesSpec)) ctrlRangesUptoCard

/-- THE SECOND FORM's CARD OF 'larderlaw05.CtrlLives'. -/
def ctrlLivesUptoCard : Claim7 := { stood := { row := ctrlLivesUptoRow, standIns := [], harness := (true, "0b9de0dd84034b9a6f48cadad435ad8824156a12b7ecff655edd30c0b8e335a4"), looks := false }, kinds := [], alts := [], laidByText := true, laidKinds := [.data], laidTests := true, laidLooks := .later }
def CtrlLivesUptoCardSaid : Prop := Claim7.holds Tryd.pinned (.plain (OpenSpec.upto ctrlLivesSpec)) ctrlLivesUptoCard

/-- THE SECOND FORM's CARD OF 'larderlaw05.CtrlExact'. -/
def ctrlExactUptoCard : Claim7 := { stood := { row := ctrlExactUptoRow, standIns := [], harness := (true, "0b9de0dd84034b9a6f48cadad435ad8824156a12b7ecff655edd30c0b8e335a4"), looks := false }, kinds := [], alts := [], laidByText := true, laidKinds := [.data], laidTests := true, laidLooks := .later }
def CtrlExactUptoCardSaid : Prop := Claim7.holds Tryd.pinned (.plain (OpenSpec.upto ctrlExactSpec)) ctrlExactUptoCard
end Rows
end Go.Proofs.YtakmaedimelaaaaDoor
