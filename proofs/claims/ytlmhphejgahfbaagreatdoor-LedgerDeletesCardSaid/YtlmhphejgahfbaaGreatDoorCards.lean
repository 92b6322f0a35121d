/-
  DERIVED. GIVEN WITH THE SEED: THE CARDS: each row of YtlmhphejgahfbaaGreatDoorRows.lean that lists a variable, with what it lists TIED to the program's text (the seventh form; the later family's looks); each row that meets fmt, with fmt's text TOLD by the authors' own Lean function (tested against real Go, not proved from fmt's source: count such statements apart). THE CARD IS WHAT COUNTS. Prove the row's statement (the work); the ties are given (YtlmhphejgahfbaaGreatDoorTie.lean); close each card by the builder's one call (the guide's Derived/Test/ToyasCard.lean, 'card_holds'). Laid BY PROGRAM, IN A SANDBOX (cutbox-door.mjs). By AI agents, Wed Nov 11 2026. No macro, syntax, notation, axiom, sorry.
-/
import Derived.Test.YtlmhphejgahfbaaGreatDoorRows
import GoSem.ClaimSeven
namespace Go.Proofs.YtlmhphejgahfbaaGreatDoor
namespace Rows

/-- THE TIED CARD OF 'countinghouselaw15.LedgerDigests'. -/
def ledgerDigestsCard : Claim7 := { stood := { row := ledgerDigestsRow, standIns := [], harness := (true, "33b901f81583144bba0fe5217d23ce742fd7a97b38710fb4c2742bc85b9e94df"), looks := false }, kinds := [], alts := [], laidByText := true, laidKinds := [.data, .data, .pinned], laidTests := true, laidLooks := .later }
def LedgerDigestsCardSaid : Prop := Claim7.holds Tryz.pinned (.plain (OpenSpec.ofChange ledgerDigestsSpec)) ledgerDigestsCard

/-- THE TIED CARD OF 'countinghouselaw15.LedgerFirst'. -/
def ledgerFirstCard : Claim7 := { stood := { row := ledgerFirstRow, standIns := [], harness := (true, "33b901f81583144bba0fe5217d23ce742fd7a97b38710fb4c2742bc85b9e94df"), looks := false }, kinds := [], alts := [], laidByText := true, laidKinds := [.data, .data, .pinned], laidTests := true, laidLooks := .later }
def LedgerFirstCardSaid : Prop := Claim7.holds Tryz.pinned (.plain (OpenSpec.ofChange ledgerFirstSpec)) ledgerFirstCard

/-- THE TIED CARD OF 'countinghouselaw15.LedgerDeletes'. -/
def ledgerDeletesCard : Claim7 := { stood := { row := ledgerDeletesRow, standIns := [], harness := (true, "33b901f81583144bba0fe5217d23ce742fd7a97b38710fb4c2742bc85b9e94df"), looks := false }, kinds := [], alts := [], laidByText := true, laidKinds := [.data, .data, .pinned], laidTests := true, laidLooks := .later }
def LedgerDeletesCardSaid : Prop := Claim7.holds Tryz.pinned (.plain (OpenSpec.ofChange ledgerDeletesSpec)) ledgerDeletesCard

/-- THE TIED CARD OF 'countinghouselaw15.LedgerNil'. -/
def ledgerNilCard : Claim7 := { stood := { row := ledgerNilRow, standIns := [], harness := (true, "33b901f81583144bba0fe5217d23ce742fd7a97b38710fb4c2742bc85b9e94df"), looks := false }, kinds := [], alts := [], laidByText := true, laidKinds := [.data, .data, .pinned], laidTests := true, laidLooks := .later }
def LedgerNilCardSaid : Prop := Claim7.holds Tryz.pinned (.plain (OpenSpec.ofChange ledgerNilSpec)) ledgerNilCard

/-- THE SECOND FORM's CARD OF 'countinghouselaw15.LedgerDigests'. -/
def ledgerDigestsUptoCard : Claim7 := { stood := { row := ledgerDigestsUptoRow, standIns := [], harness := (true, "33b901f81583144bba0fe5217d23ce742fd7a97b38710fb4c2742bc85b9e94df"), looks := false }, kinds := [], alts := [], laidByText := true, laidKinds := [.data, .data, .pinned], laidTests := true, laidLooks := .later }
def LedgerDigestsUptoCardSaid : Prop := Claim7.holds Tryz.pinned (.plain (OpenSpec.upto ledgerDigestsSpec)) ledgerDigestsUptoCard

/-- THE SECOND FORM's CARD OF 'countinghouselaw15.LedgerFirst'. -/
def ledgerFirstUptoCard : Claim7 := { stood := { row := ledgerFirstUptoRow, standIns := [], harness := (true, "33b901f81583144bba0fe5217d23ce742fd7a97b38710fb4c2742bc85b9e94df"), looks := false }, kinds := [], alts := [], laidByText := true, laidKinds := [.data, .data, .pinned], laidTests := true, laidLooks := .later }
def LedgerFirstUptoCardSaid : Prop := Claim7.holds Tryz.pinned (.plain (OpenSpec.upto ledgerFirstSpec)) ledgerFirstUptoCard

/-- THE SECOND FORM's CARD OF 'countinghouselaw15.LedgerDeletes'. -/
def ledgerDeletesUptoCard : Claim7 := { stood := { row := ledgerDeletesUptoRow, standIns := [], harness := (true, "33b901f81583144bba0fe5217d23ce742fd7a97b38710fb4c2742bc85b9e94df"), looks := false }, kinds := [], alts := [], laidByText := true, laidKinds := [.data, .data, .pinned], laidTests := true, laidLooks := .later }
def LedgerDeletesUptoCardSaid : Prop := Claim7.holds Tryz.pinned (.plain (OpenSpec.upto ledgerDeletesSpec)) ledgerDeletesUptoCard

/-- THE SECOND FORM's CARD OF 'countinghouselaw15.LedgerNil'. -/
def ledgerNilUptoCard : Claim7 := { stood := { row := ledgerNilUptoRow, standIns := [], harness := (true, "33b901f81583144bba0fe5217d23ce742fd7a97b38710fb4c2742bc85b9e94df"), looks := false }, kinds := [], alts := [], laidByText := true, laidKinds := [.data, .data, .pinned], laidTests := true, laidLooks := .later }
def LedgerNilUptoCardSaid : Prop := Claim7.holds Tryz.pinned (.plain (OpenSpec.upto ledgerNilSpec)) ledgerNilUptoCard
end Rows
end Go.Proofs.YtlmhphejgahfbaaGreatDoor
