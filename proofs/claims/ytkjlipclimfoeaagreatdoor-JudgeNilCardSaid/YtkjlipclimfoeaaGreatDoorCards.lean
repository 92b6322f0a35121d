/-
  DERIVED. GIVEN WITH THE SEED: THE CARDS: each row of YtkjlipclimfoeaaGreatDoorRows.lean that lists a variable, with what it lists TIED to the program's text (the seventh form; the later family's looks); each row that meets fmt, with fmt's text TOLD by the authors' own Lean function (tested against real Go, not proved from fmt's source: count such statements apart). THE CARD IS WHAT COUNTS. Prove the row's statement (the work); the ties are given (YtkjlipclimfoeaaGreatDoorTie.lean); close each card by the builder's one call (the guide's Derived/Test/ToyasCard.lean, 'card_holds'). Laid BY PROGRAM, IN A SANDBOX (cutbox-door.mjs). By AI agents, Wed Nov 11 2026. No macro, syntax, notation, axiom, sorry.
-/
import Derived.Test.YtkjlipclimfoeaaGreatDoorRows
import GoSem.ClaimSeven
namespace Go.Proofs.YtkjlipclimfoeaaGreatDoor
namespace Rows

/-- THE TIED CARD OF 'countinghouselaw20.JudgePrefix'. -/
def judgePrefixCard : Claim7 := { stood := { row := judgePrefixRow, standIns := [], harness := (true, "705973ef0b641d92d05c262e5fc957350b350c499c738035f5ed55404f2f9cbe"), looks := false }, kinds := [], alts := [], laidByText := true, laidKinds := [.data, .data, .pinned], laidTests := true, laidLooks := .later }
def JudgePrefixCardSaid : Prop := Claim7.holds Tryz.pinned (.plain (OpenSpec.ofChange judgePrefixSpec)) judgePrefixCard

/-- THE TIED CARD OF 'countinghouselaw20.JudgeNil'. -/
def judgeNilCard : Claim7 := { stood := { row := judgeNilRow, standIns := [], harness := (true, "705973ef0b641d92d05c262e5fc957350b350c499c738035f5ed55404f2f9cbe"), looks := false }, kinds := [], alts := [], laidByText := true, laidKinds := [.data, .data, .pinned], laidTests := true, laidLooks := .later }
def JudgeNilCardSaid : Prop := Claim7.holds Tryz.pinned (.plain (OpenSpec.ofChange judgeNilSpec)) judgeNilCard

/-- THE SECOND FORM's CARD OF 'countinghouselaw20.JudgePrefix'. -/
def judgePrefixUptoCard : Claim7 := { stood := { row := judgePrefixUptoRow, standIns := [], harness := (true, "705973ef0b641d92d05c262e5fc957350b350c499c738035f5ed55404f2f9cbe"), looks := false }, kinds := [], alts := [], laidByText := true, laidKinds := [.data, .data, .pinned], laidTests := true, laidLooks := .later }
def JudgePrefixUptoCardSaid : Prop := Claim7.holds Tryz.pinned (.plain (OpenSpec.upto judgePrefixSpec)) judgePrefixUptoCard

/-- THE SECOND FORM's CARD OF 'countinghouselaw20.JudgeNil'. -/
def judgeNilUptoCard : Claim7 := { stood := { row := judgeNilUptoRow, standIns := [], harness := (true, "705973ef0b641d92d05c262e5fc957350b350c499c738035f5ed55404f2f9cbe"), looks := false }, kinds := [], alts := [], laidByText := true, laidKinds := [.data, .data, .pinned], laidTests := true, laidLooks := .later }
def JudgeNilUptoCardSaid : Prop := Claim7.holds Tryz.pinned (.plain (OpenSpec.upto judgeNilSpec)) judgeNilUptoCard
end Rows
end Go.Proofs.YtkjlipclimfoeaaGreatDoor
