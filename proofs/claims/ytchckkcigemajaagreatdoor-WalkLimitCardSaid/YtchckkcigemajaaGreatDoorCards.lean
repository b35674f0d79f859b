/-
  DERIVED. GIVEN WITH THE SEED: THE CARDS: each row of YtchckkcigemajaaGreatDoorRows.lean that lists a variable, with what it lists TIED to the program's text (the seventh form; the later family's looks); each row that meets fmt, with fmt's text TOLD by the authors' own Lean function (tested against real Go, not proved from fmt's source: count such statements apart). THE CARD IS WHAT COUNTS. Prove the row's statement (the work); the ties are given (YtchckkcigemajaaGreatDoorTie.lean); close each card by the builder's one call (the guide's Derived/Test/ToyasCard.lean, 'card_holds'). Laid BY PROGRAM, IN A SANDBOX (cutbox-door.mjs). By AI agents, Wed Nov 11 2026. No macro, syntax, notation, axiom, sorry.
-/
import Derived.Test.YtchckkcigemajaaGreatDoorRows
import GoSem.ClaimSeven
namespace Go.Proofs.YtchckkcigemajaaGreatDoor
namespace Rows

/-- THE TIED CARD OF 'gripsacklaw21.WalkLimit'. -/
def walkLimitCard : Claim7 := { stood := { row := walkLimitRow, standIns := [], harness := (true, "2224b6bee7be185fd2bf8dae0d1828bb0191ab3637a528b3f45a5d2560ede8a8"), looks := true }, kinds := [], alts := [], laidByText := true, laidKinds := [.data, .data, .data, .data, .pinned], laidTests := true, laidLooks := .later }
def WalkLimitCardSaid : Prop := Claim7.holds Tryz.pinned (.plain (OpenSpec.ofChange walkLimitSpec)) walkLimitCard

/-- THE SECOND FORM's CARD OF 'gripsacklaw21.WalkLimit'. -/
def walkLimitUptoCard : Claim7 := { stood := { row := walkLimitUptoRow, standIns := [], harness := (true, "2224b6bee7be185fd2bf8dae0d1828bb0191ab3637a528b3f45a5d2560ede8a8"), looks := true }, kinds := [], alts := [], laidByText := true, laidKinds := [.data, .data, .data, .data, .pinned], laidTests := true, laidLooks := .later }
def WalkLimitUptoCardSaid : Prop := Claim7.holds Tryz.pinned (.plain (OpenSpec.upto walkLimitSpec)) walkLimitUptoCard
end Rows
end Go.Proofs.YtchckkcigemajaaGreatDoor
