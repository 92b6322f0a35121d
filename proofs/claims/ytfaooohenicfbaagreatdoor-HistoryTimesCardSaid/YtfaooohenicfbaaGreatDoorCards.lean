/-
  DERIVED. GIVEN WITH THE SEED: THE CARDS: each row of YtfaooohenicfbaaGreatDoorRows.lean that lists a variable, with what it lists TIED to the program's text (the seventh form; the later family's looks); each row that meets fmt, with fmt's text TOLD by the authors' own Lean function (tested against real Go, not proved from fmt's source: count such statements apart). THE CARD IS WHAT COUNTS. Prove the row's statement (the work); the ties are given (YtfaooohenicfbaaGreatDoorTie.lean); close each card by the builder's one call (the guide's Derived/Test/ToyasCard.lean, 'card_holds'). Laid BY PROGRAM, IN A SANDBOX (cutbox-door.mjs). By AI agents, Wed Nov 11 2026. No macro, syntax, notation, axiom, sorry.
-/
import Derived.Test.YtfaooohenicfbaaGreatDoorRows
import GoSem.ClaimSeven
namespace Go.Proofs.YtfaooohenicfbaaGreatDoor
namespace Rows

/-- THE TIED CARD OF 'countinghouselaw19.HistoryOrder'. -/
def historyOrderCard : Claim7 := { stood := { row := historyOrderRow, standIns := [], harness := (true, "addbbb0bee333aeda7be1b6d5ec9db5249189807e15bfae824341e25885d8106"), looks := false }, kinds := [], alts := [], laidByText := true, laidKinds := [.data, .data, .pinned], laidTests := true, laidLooks := .later }
def HistoryOrderCardSaid : Prop := Claim7.holds Tryz.pinned (.plain (OpenSpec.ofChange historyOrderSpec)) historyOrderCard

/-- THE TIED CARD OF 'countinghouselaw19.HistoryTimes'. -/
def historyTimesCard : Claim7 := { stood := { row := historyTimesRow, standIns := [], harness := (true, "addbbb0bee333aeda7be1b6d5ec9db5249189807e15bfae824341e25885d8106"), looks := false }, kinds := [], alts := [], laidByText := true, laidKinds := [.data, .data, .pinned], laidTests := true, laidLooks := .later }
def HistoryTimesCardSaid : Prop := Claim7.holds Tryz.pinned (.plain (OpenSpec.ofChange historyTimesSpec)) historyTimesCard

/-- THE TIED CARD OF 'countinghouselaw19.HistoryFails'. -/
def historyFailsCard : Claim7 := { stood := { row := historyFailsRow, standIns := [], harness := (true, "addbbb0bee333aeda7be1b6d5ec9db5249189807e15bfae824341e25885d8106"), looks := false }, kinds := [], alts := [], laidByText := true, laidKinds := [.data, .data, .pinned], laidTests := true, laidLooks := .later }
def HistoryFailsCardSaid : Prop := Claim7.holds Tryz.pinned (.plain (OpenSpec.ofChange historyFailsSpec)) historyFailsCard

/-- THE SECOND FORM's CARD OF 'countinghouselaw19.HistoryOrder'. -/
def historyOrderUptoCard : Claim7 := { stood := { row := historyOrderUptoRow, standIns := [], harness := (true, "addbbb0bee333aeda7be1b6d5ec9db5249189807e15bfae824341e25885d8106"), looks := false }, kinds := [], alts := [], laidByText := true, laidKinds := [.data, .data, .pinned], laidTests := true, laidLooks := .later }
def HistoryOrderUptoCardSaid : Prop := Claim7.holds Tryz.pinned (.plain (OpenSpec.upto historyOrderSpec)) historyOrderUptoCard

/-- THE SECOND FORM's CARD OF 'countinghouselaw19.HistoryTimes'. -/
def historyTimesUptoCard : Claim7 := { stood := { row := historyTimesUptoRow, standIns := [], harness := (true, "addbbb0bee333aeda7be1b6d5ec9db5249189807e15bfae824341e25885d8106"), looks := false }, kinds := [], alts := [], laidByText := true, laidKinds := [.data, .data, .pinned], laidTests := true, laidLooks := .later }
def HistoryTimesUptoCardSaid : Prop := Claim7.holds Tryz.pinned (.plain (OpenSpec.upto historyTimesSpec)) historyTimesUptoCard

/-- THE SECOND FORM's CARD OF 'countinghouselaw19.HistoryFails'. -/
def historyFailsUptoCard : Claim7 := { stood := { row := historyFailsUptoRow, standIns := [], harness := (true, "addbbb0bee333aeda7be1b6d5ec9db5249189807e15bfae824341e25885d8106"), looks := false }, kinds := [], alts := [], laidByText := true, laidKinds := [.data, .data, .pinned], laidTests := true, laidLooks := .later }
def HistoryFailsUptoCardSaid : Prop := Claim7.holds Tryz.pinned (.plain (OpenSpec.upto historyFailsSpec)) historyFailsUptoCard
end Rows
end Go.Proofs.YtfaooohenicfbaaGreatDoor
