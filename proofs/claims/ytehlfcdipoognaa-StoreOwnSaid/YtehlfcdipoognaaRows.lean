/-
  No cell of these rows narrows 'for every input' (looked for: loops, veiled, ifaces, maps, wideKeys, modest, calm, conditions, laid).
  DERIVED. THE GIVEN ROWS OF THIS SEAT. 7 by the template 'for every input the law returns true; each argument reads behind the call as it read before'; 0 by the template 'total and deterministic' (their statements: YtehlfcdipoognaaTotals.lean).
  GIVEN WITH THE SEED: the statements are not yours to turn. If you find one false, say at which input.
  Laid BY PROGRAM, IN A SANDBOX (cutbox-rows.mjs): the forced cells as the released guide's own fill.sh prints them over the translation 92c813bf3918edb2… (all of the seat's roots in one cut). By AI agents, Wed Nov 11 2026. No macro, syntax, notation, axiom, sorry.
-/
import Derived.Test.YtehlfcdipoognaaChecked
import GoSem.Claim
import GoSem.ClaimJoined
import GoSem.ClaimMapViews
import Derived.JoinedTies
import Derived.KernelRfl
namespace Go.Proofs.Ytehlfcdipoognaa
/- THE CELL 'sum', in the pinned program and in every row, IS THE sha256 OF THE DUMP (.gsa) THAT YtehlfcdipoognaaProg.lean LOADS. Nothing in Lean hashes anything: it is a label: what it is worth is what the hold of that sum in a sandbox is worth. -/
noncomputable def Try.pinned : Pinned := { name := "ytehlfcdipoognaa", sum := "92c813bf3918edb234e35dcc6917bcb9abf88f643e06ecd997c61e646e5b3ca4", checked := Try.checked }
namespace Rows
def none {H : Type} : Left H := { results := [], args := [] }

/-- 'countinghouselaw13.StoreScans': WHATEVER THE INPUT: true; the input reads as it did. -/
def storeScansSpec : ChangeSpec := { name := "storeScans", fn := fun _ => fun
  | [d1, d2, d3, d4, d5, d6] => { results := [.lit (.bool true)], args := [d1, d2, d3, d4, d5, d6] }
  | _ => none }
def storeScansRow : OpenClaim := { program := "ytehlfcdipoognaa", sum := "92c813bf3918edb234e35dcc6917bcb9abf88f643e06ecd997c61e646e5b3ca4", func := "countinghouse/countinghouselaw13.StoreScans", spec := "storeScans", unfollowed := true, recurses := true, apart := false }
def StoreScansSaid : Prop := storeScansRow.holds Try.pinned (OpenSpec.ofChange storeScansSpec)

/-- ITS FALSE NEIGHBOUR: 'it returns false'. Refute it at one input. -/
def storeScansWrong : ChangeSpec := { name := "storeScans", fn := fun _ => fun
  | [d1, d2, d3, d4, d5, d6] => { results := [.lit (.bool false)], args := [d1, d2, d3, d4, d5, d6] }
  | _ => none }
def StoreScansWrongFalsely : Prop := storeScansRow.holds Try.pinned (OpenSpec.ofChange storeScansWrong)

/-- 'countinghouselaw13.StoreKeeps': WHATEVER THE INPUT: true; the input reads as it did. -/
def storeKeepsSpec : ChangeSpec := { name := "storeKeeps", fn := fun _ => fun
  | [d1, d2] => { results := [.lit (.bool true)], args := [d1, d2] }
  | _ => none }
def storeKeepsRow : OpenClaim := { program := "ytehlfcdipoognaa", sum := "92c813bf3918edb234e35dcc6917bcb9abf88f643e06ecd997c61e646e5b3ca4", func := "countinghouse/countinghouselaw13.StoreKeeps", spec := "storeKeeps", unfollowed := true, recurses := true, apart := false }
def StoreKeepsSaid : Prop := storeKeepsRow.holds Try.pinned (OpenSpec.ofChange storeKeepsSpec)

/-- ITS FALSE NEIGHBOUR: 'it returns false'. Refute it at one input. -/
def storeKeepsWrong : ChangeSpec := { name := "storeKeeps", fn := fun _ => fun
  | [d1, d2] => { results := [.lit (.bool false)], args := [d1, d2] }
  | _ => none }
def StoreKeepsWrongFalsely : Prop := storeKeepsRow.holds Try.pinned (OpenSpec.ofChange storeKeepsWrong)

/-- 'countinghouselaw13.StoreOwn': WHATEVER THE INPUT: true; the input reads as it did. -/
def storeOwnSpec : ChangeSpec := { name := "storeOwn", fn := fun _ => fun
  | [d1, d2] => { results := [.lit (.bool true)], args := [d1, d2] }
  | _ => none }
def storeOwnRow : OpenClaim := { program := "ytehlfcdipoognaa", sum := "92c813bf3918edb234e35dcc6917bcb9abf88f643e06ecd997c61e646e5b3ca4", func := "countinghouse/countinghouselaw13.StoreOwn", spec := "storeOwn", unfollowed := true, recurses := true, apart := false }
def StoreOwnSaid : Prop := storeOwnRow.holds Try.pinned (OpenSpec.ofChange storeOwnSpec)

/-- ITS FALSE NEIGHBOUR: 'it returns false'. Refute it at one input. -/
def storeOwnWrong : ChangeSpec := { name := "storeOwn", fn := fun _ => fun
  | [d1, d2] => { results := [.lit (.bool false)], args := [d1, d2] }
  | _ => none }
def StoreOwnWrongFalsely : Prop := storeOwnRow.holds Try.pinned (OpenSpec.ofChange storeOwnWrong)

/-- 'countinghouselaw13.StoreErrs': WHATEVER THE INPUT: true; the input reads as it did. -/
def storeErrsSpec : ChangeSpec := { name := "storeErrs", fn := fun _ => fun
  | [d1, d2, d3, d4] => { results := [.lit (.bool true)], args := [d1, d2, d3, d4] }
  | _ => none }
def storeErrsRow : OpenClaim := { program := "ytehlfcdipoognaa", sum := "92c813bf3918edb234e35dcc6917bcb9abf88f643e06ecd997c61e646e5b3ca4", func := "countinghouse/countinghouselaw13.StoreErrs", spec := "storeErrs", unfollowed := true, recurses := true, apart := false }
def StoreErrsSaid : Prop := storeErrsRow.holds Try.pinned (OpenSpec.ofChange storeErrsSpec)

/-- ITS FALSE NEIGHBOUR: 'it returns false'. Refute it at one input. -/
def storeErrsWrong : ChangeSpec := { name := "storeErrs", fn := fun _ => fun
  | [d1, d2, d3, d4] => { results := [.lit (.bool false)], args := [d1, d2, d3, d4] }
  | _ => none }
def StoreErrsWrongFalsely : Prop := storeErrsRow.holds Try.pinned (OpenSpec.ofChange storeErrsWrong)

/-- 'countinghouselaw13.StorePlays': WHATEVER THE INPUT: true; the input reads as it did. -/
def storePlaysSpec : ChangeSpec := { name := "storePlays", fn := fun _ => fun
  | [d1, d2] => { results := [.lit (.bool true)], args := [d1, d2] }
  | _ => none }
def storePlaysRow : OpenClaim := { program := "ytehlfcdipoognaa", sum := "92c813bf3918edb234e35dcc6917bcb9abf88f643e06ecd997c61e646e5b3ca4", func := "countinghouse/countinghouselaw13.StorePlays", spec := "storePlays", unfollowed := true, recurses := true, apart := false }
def StorePlaysSaid : Prop := storePlaysRow.holds Try.pinned (OpenSpec.ofChange storePlaysSpec)

/-- ITS FALSE NEIGHBOUR: 'it returns false'. Refute it at one input. -/
def storePlaysWrong : ChangeSpec := { name := "storePlays", fn := fun _ => fun
  | [d1, d2] => { results := [.lit (.bool false)], args := [d1, d2] }
  | _ => none }
def StorePlaysWrongFalsely : Prop := storePlaysRow.holds Try.pinned (OpenSpec.ofChange storePlaysWrong)

/-- 'countinghouselaw13.StoreTrims': WHATEVER THE INPUT: true; the input reads as it did. -/
def storeTrimsSpec : ChangeSpec := { name := "storeTrims", fn := fun _ => fun
  | [d1, d2] => { results := [.lit (.bool true)], args := [d1, d2] }
  | _ => none }
def storeTrimsRow : OpenClaim := { program := "ytehlfcdipoognaa", sum := "92c813bf3918edb234e35dcc6917bcb9abf88f643e06ecd997c61e646e5b3ca4", func := "countinghouse/countinghouselaw13.StoreTrims", spec := "storeTrims", unfollowed := true, recurses := true, apart := false }
def StoreTrimsSaid : Prop := storeTrimsRow.holds Try.pinned (OpenSpec.ofChange storeTrimsSpec)

/-- ITS FALSE NEIGHBOUR: 'it returns false'. Refute it at one input. -/
def storeTrimsWrong : ChangeSpec := { name := "storeTrims", fn := fun _ => fun
  | [d1, d2] => { results := [.lit (.bool false)], args := [d1, d2] }
  | _ => none }
def StoreTrimsWrongFalsely : Prop := storeTrimsRow.holds Try.pinned (OpenSpec.ofChange storeTrimsWrong)

/-- 'countinghouselaw13.StoreNil': WHATEVER THE INPUT: true; the input reads as it did. -/
def storeNilSpec : ChangeSpec := { name := "storeNil", fn := fun _ => fun
  | [d1, d2] => { results := [.lit (.bool true)], args := [d1, d2] }
  | _ => none }
def storeNilRow : OpenClaim := { program := "ytehlfcdipoognaa", sum := "92c813bf3918edb234e35dcc6917bcb9abf88f643e06ecd997c61e646e5b3ca4", func := "countinghouse/countinghouselaw13.StoreNil", spec := "storeNil", unfollowed := true, recurses := true, apart := false }
def StoreNilSaid : Prop := storeNilRow.holds Try.pinned (OpenSpec.ofChange storeNilSpec)

/-- ITS FALSE NEIGHBOUR: 'it returns false'. Refute it at one input. -/
def storeNilWrong : ChangeSpec := { name := "storeNil", fn := fun _ => fun
  | [d1, d2] => { results := [.lit (.bool false)], args := [d1, d2] }
  | _ => none }
def StoreNilWrongFalsely : Prop := storeNilRow.holds Try.pinned (OpenSpec.ofChange storeNilWrong)

/- THE SECOND FORM. 'bulk': how many values and letters a reading holds, each counted each time it is reached (what is shared counts as often as it is met; a slice's spare places count too). A statement '..UptoSaid' is the law's where the arguments, and the package variables that the reading takes, are together of bulk at most 1048576: NARROWER than '..Said'. Prove '..Said' where nothing that the law and all that it calls make is longer than what came in: it says more and counts as full. Else prove '..UptoSaid'. A law counts once. -/
mutual
def uptoBulk {H : Type} : DataW H → Nat
  | .lit (.string bytes) => bytes.length + 1
  | .lit _ => 1
  | .nil => 1
  | .ptr d => uptoBulk d + 1
  | .slice elems spare => uptoBulkAll elems + uptoBulkAll spare + 1
  | .agg parts => uptoBulkAll parts + 1
  | .iface _ d => uptoBulk d + 1
  | .map entries => uptoBulkEntries entries + 1
  | .held _ => 1
def uptoBulkAll {H : Type} : List (DataW H) → Nat
  | [] => 0
  | d :: r => uptoBulk d + uptoBulkAll r
def uptoBulkEntries {H : Type} : List (Lit × DataW H) → Nat
  | [] => 0
  | x :: r => uptoBulkEntry x + uptoBulkEntries r
def uptoBulkEntry {H : Type} : Lit × DataW H → Nat
  | (.string bytes, d) => bytes.length + uptoBulk d + 1
  | (_, d) => uptoBulk d + 1
 end
def uptoSmall : (H : Type) → List (DataW H) → Bool := fun _ ds => decide (uptoBulkAll ds ≤ 1048576)
def OpenSpec.upto (s : _root_.Go.ChangeSpec) : _root_.Go.OpenSpec := { _root_.Go.OpenSpec.ofChange s with cond := some uptoSmall }

/-- 'countinghouselaw13.StoreScans', WHERE WHAT IT READS IS OF BULK AT MOST 1048576: true; the input reads as it did. -/
def storeScansUptoRow : OpenClaim := { program := "ytehlfcdipoognaa", sum := "92c813bf3918edb234e35dcc6917bcb9abf88f643e06ecd997c61e646e5b3ca4", func := "countinghouse/countinghouselaw13.StoreScans", spec := "storeScans", unfollowed := true, recurses := true, apart := false, narrowed := true }
def StoreScansUptoSaid : Prop := storeScansUptoRow.holds Try.pinned (OpenSpec.upto storeScansSpec)

/-- 'countinghouselaw13.StoreKeeps', WHERE WHAT IT READS IS OF BULK AT MOST 1048576: true; the input reads as it did. -/
def storeKeepsUptoRow : OpenClaim := { program := "ytehlfcdipoognaa", sum := "92c813bf3918edb234e35dcc6917bcb9abf88f643e06ecd997c61e646e5b3ca4", func := "countinghouse/countinghouselaw13.StoreKeeps", spec := "storeKeeps", unfollowed := true, recurses := true, apart := false, narrowed := true }
def StoreKeepsUptoSaid : Prop := storeKeepsUptoRow.holds Try.pinned (OpenSpec.upto storeKeepsSpec)

/-- 'countinghouselaw13.StoreOwn', WHERE WHAT IT READS IS OF BULK AT MOST 1048576: true; the input reads as it did. -/
def storeOwnUptoRow : OpenClaim := { program := "ytehlfcdipoognaa", sum := "92c813bf3918edb234e35dcc6917bcb9abf88f643e06ecd997c61e646e5b3ca4", func := "countinghouse/countinghouselaw13.StoreOwn", spec := "storeOwn", unfollowed := true, recurses := true, apart := false, narrowed := true }
def StoreOwnUptoSaid : Prop := storeOwnUptoRow.holds Try.pinned (OpenSpec.upto storeOwnSpec)

/-- 'countinghouselaw13.StoreErrs', WHERE WHAT IT READS IS OF BULK AT MOST 1048576: true; the input reads as it did. -/
def storeErrsUptoRow : OpenClaim := { program := "ytehlfcdipoognaa", sum := "92c813bf3918edb234e35dcc6917bcb9abf88f643e06ecd997c61e646e5b3ca4", func := "countinghouse/countinghouselaw13.StoreErrs", spec := "storeErrs", unfollowed := true, recurses := true, apart := false, narrowed := true }
def StoreErrsUptoSaid : Prop := storeErrsUptoRow.holds Try.pinned (OpenSpec.upto storeErrsSpec)

/-- 'countinghouselaw13.StorePlays', WHERE WHAT IT READS IS OF BULK AT MOST 1048576: true; the input reads as it did. -/
def storePlaysUptoRow : OpenClaim := { program := "ytehlfcdipoognaa", sum := "92c813bf3918edb234e35dcc6917bcb9abf88f643e06ecd997c61e646e5b3ca4", func := "countinghouse/countinghouselaw13.StorePlays", spec := "storePlays", unfollowed := true, recurses := true, apart := false, narrowed := true }
def StorePlaysUptoSaid : Prop := storePlaysUptoRow.holds Try.pinned (OpenSpec.upto storePlaysSpec)

/-- 'countinghouselaw13.StoreTrims', WHERE WHAT IT READS IS OF BULK AT MOST 1048576: true; the input reads as it did. -/
def storeTrimsUptoRow : OpenClaim := { program := "ytehlfcdipoognaa", sum := "92c813bf3918edb234e35dcc6917bcb9abf88f643e06ecd997c61e646e5b3ca4", func := "countinghouse/countinghouselaw13.StoreTrims", spec := "storeTrims", unfollowed := true, recurses := true, apart := false, narrowed := true }
def StoreTrimsUptoSaid : Prop := storeTrimsUptoRow.holds Try.pinned (OpenSpec.upto storeTrimsSpec)

/-- 'countinghouselaw13.StoreNil', WHERE WHAT IT READS IS OF BULK AT MOST 1048576: true; the input reads as it did. -/
def storeNilUptoRow : OpenClaim := { program := "ytehlfcdipoognaa", sum := "92c813bf3918edb234e35dcc6917bcb9abf88f643e06ecd997c61e646e5b3ca4", func := "countinghouse/countinghouselaw13.StoreNil", spec := "storeNil", unfollowed := true, recurses := true, apart := false, narrowed := true }
def StoreNilUptoSaid : Prop := storeNilUptoRow.holds Try.pinned (OpenSpec.upto storeNilSpec)

end Rows
end Go.Proofs.Ytehlfcdipoognaa
