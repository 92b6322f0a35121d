/-
  DERIVED. GIVEN WITH THE SEED: THE CARDS: each row of YtlgmodeibmdcgaaDoorRows.lean that lists a variable, with what it lists TIED to the program's text (the seventh form; the later family's looks); each row that meets fmt, with fmt's text TOLD by the authors' own Lean function (tested against real Go, not proved from fmt's source: count such statements apart). THE CARD IS WHAT COUNTS. Prove the row's statement (the work); the ties are given (YtlgmodeibmdcgaaDoorTie.lean); close each card by the builder's one call (the guide's Derived/Test/ToyasCard.lean, 'card_holds'). Laid BY PROGRAM, IN A SANDBOX (cutbox-door.mjs). By AI agents, Wed Nov 11 2026. No macro, syntax, notation, axiom, sorry.
-/
import Derived.Test.YtlgmodeibmdcgaaDoorRows
import GoSem.ClaimSeven
namespace Go.Proofs.YtlgmodeibmdcgaaDoor
namespace Rows

/-- THE TIED CARD OF 'countinghouselaw09.TrieOne'. -/
def trieOneCard : Claim7 := { stood := { row := trieOneRow, standIns := [], harness := (true, "7674bf1ea8edd3ceaabb7c9739b3d7ae4d5f4b8d54f2678ddc3eb4e6c940115b"), looks := false }, kinds := [], alts := [], laidByText := true, laidKinds := [.data], laidTests := true, laidLooks := .later }
def TrieOneCardSaid : Prop := Claim7.holds Tryd.pinned (.plain (OpenSpec.ofChange trieOneSpec)) trieOneCard

/-- THE TIED CARD OF 'countinghouselaw09.TrieHalves'. -/
def trieHalvesCard : Claim7 := { stood := { row := trieHalvesRow, standIns := [], harness := (true, "7674bf1ea8edd3ceaabb7c9739b3d7ae4d5f4b8d54f2678ddc3eb4e6c940115b"), looks := false }, kinds := [], alts := [], laidByText := true, laidKinds := [.data], laidTests := true, laidLooks := .later }
def TrieHalvesCardSaid : Prop := Claim7.holds Tryd.pinned (.plain (OpenSpec.ofChange trieHalvesSpec)) trieHalvesCard

/-- THE TIED CARD OF 'countinghouselaw09.TrieOwn'. -/
def trieOwnCard : Claim7 := { stood := { row := trieOwnRow, standIns := [], harness := (true, "7674bf1ea8edd3ceaabb7c9739b3d7ae4d5f4b8d54f2678ddc3eb4e6c940115b"), looks := false }, kinds := [], alts := [], laidByText := true, laidKinds := [.data], laidTests := true, laidLooks := .later }
def TrieOwnCardSaid : Prop := Claim7.holds Tryd.pinned (.plain (OpenSpec.ofChange trieOwnSpec)) trieOwnCard

/-- THE TIED CARD OF 'countinghouselaw09.TrieOrder'. -/
def trieOrderCard : Claim7 := { stood := { row := trieOrderRow, standIns := [], harness := (true, "7674bf1ea8edd3ceaabb7c9739b3d7ae4d5f4b8d54f2678ddc3eb4e6c940115b"), looks := false }, kinds := [], alts := [], laidByText := true, laidKinds := [.data], laidTests := true, laidLooks := .later }
def TrieOrderCardSaid : Prop := Claim7.holds Tryd.pinned (.plain (OpenSpec.ofChange trieOrderSpec)) trieOrderCard

/-- THE TIED CARD OF 'countinghouselaw09.TriePlays'. -/
def triePlaysCard : Claim7 := { stood := { row := triePlaysRow, standIns := [], harness := (true, "7674bf1ea8edd3ceaabb7c9739b3d7ae4d5f4b8d54f2678ddc3eb4e6c940115b"), looks := false }, kinds := [], alts := [], laidByText := true, laidKinds := [.data], laidTests := true, laidLooks := .later }
def TriePlaysCardSaid : Prop := Claim7.holds Tryd.pinned (.plain (OpenSpec.ofChange triePlaysSpec)) triePlaysCard

/-- THE TIED CARD OF 'countinghouselaw09.TrieKeeps'. -/
def trieKeepsCard : Claim7 := { stood := { row := trieKeepsRow, standIns := [], harness := (true, "7674bf1ea8edd3ceaabb7c9739b3d7ae4d5f4b8d54f2678ddc3eb4e6c940115b"), looks := false }, kinds := [], alts := [], laidByText := true, laidKinds := [.data], laidTests := true, laidLooks := .later }
def TrieKeepsCardSaid : Prop := Claim7.holds Tryd.pinned (.plain (OpenSpec.ofChange trieKeepsSpec)) trieKeepsCard

/-- THE TIED CARD OF 'countinghouselaw09.TrieNil'. -/
def trieNilCard : Claim7 := { stood := { row := trieNilRow, standIns := [], harness := (true, "7674bf1ea8edd3ceaabb7c9739b3d7ae4d5f4b8d54f2678ddc3eb4e6c940115b"), looks := false }, kinds := [], alts := [], laidByText := true, laidKinds := [.data], laidTests := true, laidLooks := .later }
def TrieNilCardSaid : Prop := Claim7.holds Tryd.pinned (.plain (OpenSpec.ofChange trieNilSpec)) trieNilCard

/-- THE SECOND FORM's CARD OF 'countinghouselaw09.TrieOne'. -/
def trieOneUptoCard : Claim7 := { stood := { row := trieOneUptoRow, standIns := [], harness := (true, "7674bf1ea8edd3ceaabb7c9739b3d7ae4d5f4b8d54f2678ddc3eb4e6c940115b"), looks := false }, kinds := [], alts := [], laidByText := true, laidKinds := [.data], laidTests := true, laidLooks := .later }
def TrieOneUptoCardSaid : Prop := Claim7.holds Tryd.pinned (.plain (OpenSpec.upto trieOneSpec)) trieOneUptoCard

/-- THE SECOND FORM's CARD OF 'countinghouselaw09.TrieHalves'. -/
def trieHalvesUptoCard : Claim7 := { stood := { row := trieHalvesUptoRow, standIns := [], harness := (true, "7674bf1ea8edd3ceaabb7c9739b3d7ae4d5f4b8d54f2678ddc3eb4e6c940115b"), looks := false }, kinds := [], alts := [], laidByText := true, laidKinds := [.data], laidTests := true, laidLooks := .later }
def TrieHalvesUptoCardSaid : Prop := Claim7.holds Tryd.pinned (.plain (OpenSpec.upto trieHalvesSpec)) trieHalvesUptoCard

/-- THE SECOND FORM's CARD OF 'countinghouselaw09.TrieOwn'. -/
def trieOwnUptoCard : Claim7 := { stood := { row := trieOwnUptoRow, standIns := [], harness := (true, "7674bf1ea8edd3ceaabb7c9739b3d7ae4d5f4b8d54f2678ddc3eb4e6c940115b"), looks := false }, kinds := [], alts := [], laidByText := true, laidKinds := [.data], laidTests := true, laidLooks := .later }
def TrieOwnUptoCardSaid : Prop := Claim7.holds Tryd.pinned (.plain (OpenSpec.upto trieOwnSpec)) trieOwnUptoCard

/-- THE SECOND FORM's CARD OF 'countinghouselaw09.TrieOrder'. -/
def trieOrderUptoCard : Claim7 := { stood := { row := trieOrderUptoRow, standIns := [], harness := (true, "7674bf1ea8edd3ceaabb7c9739b3d7ae4d5f4b8d54f2678ddc3eb4e6c940115b"), looks := false }, kinds := [], alts := [], laidByText := true, laidKinds := [.data], laidTests := true, laidLooks := .later }
def TrieOrderUptoCardSaid : Prop := Claim7.holds Tryd.pinned (.plain (OpenSpec.upto trieOrderSpec)) trieOrderUptoCard

/-- THE SECOND FORM's CARD OF 'countinghouselaw09.TriePlays'. -/
def triePlaysUptoCard : Claim7 := { stood := { row := triePlaysUptoRow, standIns := [], harness := (true, "7674bf1ea8edd3ceaabb7c9739b3d7ae4d5f4b8d54f2678ddc3eb4e6c940115b"), looks := false }, kinds := [], alts := [], laidByText := true, laidKinds := [.data], laidTests := true, laidLooks := .later }
def TriePlaysUptoCardSaid : Prop := Claim7.holds Tryd.pinned (.plain (OpenSpec.upto triePlaysSpec)) triePlaysUptoCard

/-- THE SECOND FORM's CARD OF 'countinghouselaw09.TrieKeeps'. -/
def trieKeepsUptoCard : Claim7 := { stood := { row := trieKeepsUptoRow, standIns := [], harness := (true, "7674bf1ea8edd3ceaabb7c9739b3d7ae4d5f4b8d54f2678ddc3eb4e6c940115b"), looks := false }, kinds := [], alts := [], laidByText := true, laidKinds := [.data], laidTests := true, laidLooks := .later }
def TrieKeepsUptoCardSaid : Prop := Claim7.holds Tryd.pinned (.plain (OpenSpec.upto trieKeepsSpec)) trieKeepsUptoCard

/-- THE SECOND FORM's CARD OF 'countinghouselaw09.TrieNil'. -/
def trieNilUptoCard : Claim7 := { stood := { row := trieNilUptoRow, standIns := [], harness := (true, "7674bf1ea8edd3ceaabb7c9739b3d7ae4d5f4b8d54f2678ddc3eb4e6c940115b"), looks := false }, kinds := [], alts := [], laidByText := true, laidKinds := [.data], laidTests := true, laidLooks := .later }
def TrieNilUptoCardSaid : Prop := Claim7.holds Tryd.pinned (.plain (OpenSpec.upto trieNilSpec)) trieNilUptoCard
end Rows
end Go.Proofs.YtlgmodeibmdcgaaDoor
