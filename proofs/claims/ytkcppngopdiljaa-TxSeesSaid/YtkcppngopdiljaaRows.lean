/-
  No cell of these rows narrows 'for every input' (looked for: loops, veiled, ifaces, maps, wideKeys, modest, calm, conditions, laid).
  DERIVED. THE GIVEN ROWS OF THIS SEAT. 7 by the template 'for every input the law returns true; each argument reads behind the call as it read before'; 0 by the template 'total and deterministic' (their statements: YtkcppngopdiljaaTotals.lean).
  GIVEN WITH THE SEED: the statements are not yours to turn. If you find one false, say at which input.
  Laid BY PROGRAM, IN A SANDBOX (cutbox-rows.mjs): the forced cells as the released guide's own fill.sh prints them over the translation dfc4ce97405f0758… (all of the seat's roots in one cut). By AI agents, Wed Nov 11 2026. No macro, syntax, notation, axiom, sorry.
-/
import Derived.Test.YtkcppngopdiljaaChecked
import GoSem.Claim
import GoSem.ClaimJoined
import GoSem.ClaimMapViews
import Derived.JoinedTies
import Derived.KernelRfl
namespace Go.Proofs.Ytkcppngopdiljaa
/- THE CELL 'sum', in the pinned program and in every row, IS THE sha256 OF THE DUMP (.gsa) THAT YtkcppngopdiljaaProg.lean LOADS. Nothing in Lean hashes anything: it is a label: what it is worth is what the hold of that sum in a sandbox is worth. -/
noncomputable def Try.pinned : Pinned := { name := "ytkcppngopdiljaa", sum := "dfc4ce97405f075800219dbd0ffb2291570fc357514fc6883b6f9366880bdc18", checked := Try.checked }
namespace Rows
def none {H : Type} : Left H := { results := [], args := [] }

/-- 'countinghouselaw14.TxFull': WHATEVER THE INPUT: true; the input reads as it did. -/
def txFullSpec : ChangeSpec := { name := "txFull", fn := fun _ => fun
  | [d1, d2] => { results := [.lit (.bool true)], args := [d1, d2] }
  | _ => none }
def txFullRow : OpenClaim := { program := "ytkcppngopdiljaa", sum := "dfc4ce97405f075800219dbd0ffb2291570fc357514fc6883b6f9366880bdc18", func := "countinghouse/countinghouselaw14.TxFull", spec := "txFull", unfollowed := true, recurses := true, apart := false }
def TxFullSaid : Prop := txFullRow.holds Try.pinned (OpenSpec.ofChange txFullSpec)

/-- ITS FALSE NEIGHBOUR: 'it returns false'. Refute it at one input. -/
def txFullWrong : ChangeSpec := { name := "txFull", fn := fun _ => fun
  | [d1, d2] => { results := [.lit (.bool false)], args := [d1, d2] }
  | _ => none }
def TxFullWrongFalsely : Prop := txFullRow.holds Try.pinned (OpenSpec.ofChange txFullWrong)

/-- 'countinghouselaw14.TxWrites': WHATEVER THE INPUT: true; the input reads as it did. -/
def txWritesSpec : ChangeSpec := { name := "txWrites", fn := fun _ => fun
  | [d1, d2] => { results := [.lit (.bool true)], args := [d1, d2] }
  | _ => none }
def txWritesRow : OpenClaim := { program := "ytkcppngopdiljaa", sum := "dfc4ce97405f075800219dbd0ffb2291570fc357514fc6883b6f9366880bdc18", func := "countinghouse/countinghouselaw14.TxWrites", spec := "txWrites", unfollowed := true, recurses := true, apart := false }
def TxWritesSaid : Prop := txWritesRow.holds Try.pinned (OpenSpec.ofChange txWritesSpec)

/-- ITS FALSE NEIGHBOUR: 'it returns false'. Refute it at one input. -/
def txWritesWrong : ChangeSpec := { name := "txWrites", fn := fun _ => fun
  | [d1, d2] => { results := [.lit (.bool false)], args := [d1, d2] }
  | _ => none }
def TxWritesWrongFalsely : Prop := txWritesRow.holds Try.pinned (OpenSpec.ofChange txWritesWrong)

/-- 'countinghouselaw14.TxOrder': WHATEVER THE INPUT: true; the input reads as it did. -/
def txOrderSpec : ChangeSpec := { name := "txOrder", fn := fun _ => fun
  | [d] => { results := [.lit (.bool true)], args := [d] }
  | _ => none }
def txOrderRow : OpenClaim := { program := "ytkcppngopdiljaa", sum := "dfc4ce97405f075800219dbd0ffb2291570fc357514fc6883b6f9366880bdc18", func := "countinghouse/countinghouselaw14.TxOrder", spec := "txOrder", unfollowed := true, recurses := true, apart := false }
def TxOrderSaid : Prop := txOrderRow.holds Try.pinned (OpenSpec.ofChange txOrderSpec)

/-- ITS FALSE NEIGHBOUR: 'it returns false'. Refute it at one input. -/
def txOrderWrong : ChangeSpec := { name := "txOrder", fn := fun _ => fun
  | [d] => { results := [.lit (.bool false)], args := [d] }
  | _ => none }
def TxOrderWrongFalsely : Prop := txOrderRow.holds Try.pinned (OpenSpec.ofChange txOrderWrong)

/-- 'countinghouselaw14.TxLate': WHATEVER THE INPUT: true; the input reads as it did. -/
def txLateSpec : ChangeSpec := { name := "txLate", fn := fun _ => fun
  | [d1, d2, d3] => { results := [.lit (.bool true)], args := [d1, d2, d3] }
  | _ => none }
def txLateRow : OpenClaim := { program := "ytkcppngopdiljaa", sum := "dfc4ce97405f075800219dbd0ffb2291570fc357514fc6883b6f9366880bdc18", func := "countinghouse/countinghouselaw14.TxLate", spec := "txLate", unfollowed := true, recurses := true, apart := false }
def TxLateSaid : Prop := txLateRow.holds Try.pinned (OpenSpec.ofChange txLateSpec)

/-- ITS FALSE NEIGHBOUR: 'it returns false'. Refute it at one input. -/
def txLateWrong : ChangeSpec := { name := "txLate", fn := fun _ => fun
  | [d1, d2, d3] => { results := [.lit (.bool false)], args := [d1, d2, d3] }
  | _ => none }
def TxLateWrongFalsely : Prop := txLateRow.holds Try.pinned (OpenSpec.ofChange txLateWrong)

/-- 'countinghouselaw14.TxOwn': WHATEVER THE INPUT: true; the input reads as it did. -/
def txOwnSpec : ChangeSpec := { name := "txOwn", fn := fun _ => fun
  | [d1, d2] => { results := [.lit (.bool true)], args := [d1, d2] }
  | _ => none }
def txOwnRow : OpenClaim := { program := "ytkcppngopdiljaa", sum := "dfc4ce97405f075800219dbd0ffb2291570fc357514fc6883b6f9366880bdc18", func := "countinghouse/countinghouselaw14.TxOwn", spec := "txOwn", unfollowed := true, recurses := true, apart := false }
def TxOwnSaid : Prop := txOwnRow.holds Try.pinned (OpenSpec.ofChange txOwnSpec)

/-- ITS FALSE NEIGHBOUR: 'it returns false'. Refute it at one input. -/
def txOwnWrong : ChangeSpec := { name := "txOwn", fn := fun _ => fun
  | [d1, d2] => { results := [.lit (.bool false)], args := [d1, d2] }
  | _ => none }
def TxOwnWrongFalsely : Prop := txOwnRow.holds Try.pinned (OpenSpec.ofChange txOwnWrong)

/-- 'countinghouselaw14.TxNil': WHATEVER THE INPUT: true; the input reads as it did. -/
def txNilSpec : ChangeSpec := { name := "txNil", fn := fun _ => fun
  | [d1, d2] => { results := [.lit (.bool true)], args := [d1, d2] }
  | _ => none }
def txNilRow : OpenClaim := { program := "ytkcppngopdiljaa", sum := "dfc4ce97405f075800219dbd0ffb2291570fc357514fc6883b6f9366880bdc18", func := "countinghouse/countinghouselaw14.TxNil", spec := "txNil", unfollowed := true, recurses := true, apart := false }
def TxNilSaid : Prop := txNilRow.holds Try.pinned (OpenSpec.ofChange txNilSpec)

/-- ITS FALSE NEIGHBOUR: 'it returns false'. Refute it at one input. -/
def txNilWrong : ChangeSpec := { name := "txNil", fn := fun _ => fun
  | [d1, d2] => { results := [.lit (.bool false)], args := [d1, d2] }
  | _ => none }
def TxNilWrongFalsely : Prop := txNilRow.holds Try.pinned (OpenSpec.ofChange txNilWrong)

/-- 'countinghouselaw14.TxSees': WHATEVER THE INPUT: true; the input reads as it did. -/
def txSeesSpec : ChangeSpec := { name := "txSees", fn := fun _ => fun
  | [d1, d2, d3, d4, d5, d6] => { results := [.lit (.bool true)], args := [d1, d2, d3, d4, d5, d6] }
  | _ => none }
def txSeesRow : OpenClaim := { program := "ytkcppngopdiljaa", sum := "dfc4ce97405f075800219dbd0ffb2291570fc357514fc6883b6f9366880bdc18", func := "countinghouse/countinghouselaw14.TxSees", spec := "txSees", unfollowed := true, recurses := true, apart := false }
def TxSeesSaid : Prop := txSeesRow.holds Try.pinned (OpenSpec.ofChange txSeesSpec)

/-- ITS FALSE NEIGHBOUR: 'it returns false'. Refute it at one input. -/
def txSeesWrong : ChangeSpec := { name := "txSees", fn := fun _ => fun
  | [d1, d2, d3, d4, d5, d6] => { results := [.lit (.bool false)], args := [d1, d2, d3, d4, d5, d6] }
  | _ => none }
def TxSeesWrongFalsely : Prop := txSeesRow.holds Try.pinned (OpenSpec.ofChange txSeesWrong)

/- THE SECOND FORM. 'bulk': how many values and letters a reading holds, each counted each time it is reached (what is shared counts as often as it is met; a slice's spare places count too). A statement '..UptoSaid' is the law's where the arguments, and the package variables that the reading takes, are together of bulk at most 1048576: NARROWER than '..Said'. Prove '..Said' where nothing that the law and all that it calls make is longer than what came in: it says more and counts as full. Else prove '..UptoSaid'. A law counts once. -/
mutual
def uptoBulk {H : Type} : DataW H → Nat
  | .lit (.string bytes) => bytes.length + 1
  | .lit _ => 1
  | .nil => 1
  | .ptr d => uptoBulk d + 1
  | .slice elems spare => uptoBulkAll elems + uptoBulkAll spare + 1
  | .agg parts => uptoBulkAll parts + 1
  | .iface _ d => uptoBulk d + 1
  | .map entries => uptoBulkEntries entries + 1
  | .held _ => 1
def uptoBulkAll {H : Type} : List (DataW H) → Nat
  | [] => 0
  | d :: r => uptoBulk d + uptoBulkAll r
def uptoBulkEntries {H : Type} : List (Lit × DataW H) → Nat
  | [] => 0
  | x :: r => uptoBulkEntry x + uptoBulkEntries r
def uptoBulkEntry {H : Type} : Lit × DataW H → Nat
  | (.string bytes, d) => bytes.length + uptoBulk d + 1
  | (_, d) => uptoBulk d + 1
 end
def uptoSmall : (H : Type) → List (DataW H) → Bool := fun _ ds => decide (uptoBulkAll ds ≤ 1048576)
def OpenSpec.upto (s : _root_.Go.ChangeSpec) : _root_.Go.OpenSpec := { _root_.Go.OpenSpec.ofChange s with cond := some uptoSmall }

/-- 'countinghouselaw14.TxFull', WHERE WHAT IT READS IS OF BULK AT MOST 1048576: true; the input reads as it did. -/
def txFullUptoRow : OpenClaim := { program := "ytkcppngopdiljaa", sum := "dfc4ce97405f075800219dbd0ffb2291570fc357514fc6883b6f9366880bdc18", func := "countinghouse/countinghouselaw14.TxFull", spec := "txFull", unfollowed := true, recurses := true, apart := false, narrowed := true }
def TxFullUptoSaid : Prop := txFullUptoRow.holds Try.pinned (OpenSpec.upto txFullSpec)

/-- 'countinghouselaw14.TxWrites', WHERE WHAT IT READS IS OF BULK AT MOST 1048576: true; the input reads as it did. -/
def txWritesUptoRow : OpenClaim := { program := "ytkcppngopdiljaa", sum := "dfc4ce97405f075800219dbd0ffb2291570fc357514fc6883b6f9366880bdc18", func := "countinghouse/countinghouselaw14.TxWrites", spec := "txWrites", unfollowed := true, recurses := true, apart := false, narrowed := true }
def TxWritesUptoSaid : Prop := txWritesUptoRow.holds Try.pinned (OpenSpec.upto txWritesSpec)

/-- 'countinghouselaw14.TxOrder', WHERE WHAT IT READS IS OF BULK AT MOST 1048576: true; the input reads as it did. -/
def txOrderUptoRow : OpenClaim := { program := "ytkcppngopdiljaa", sum := "dfc4ce97405f075800219dbd0ffb2291570fc357514fc6883b6f9366880bdc18", func := "countinghouse/countinghouselaw14.TxOrder", spec := "txOrder", unfollowed := true, recurses := true, apart := false, narrowed := true }
def TxOrderUptoSaid : Prop := txOrderUptoRow.holds Try.pinned (OpenSpec.upto txOrderSpec)

/-- 'countinghouselaw14.TxLate', WHERE WHAT IT READS IS OF BULK AT MOST 1048576: true; the input reads as it did. -/
def txLateUptoRow : OpenClaim := { program := "ytkcppngopdiljaa", sum := "dfc4ce97405f075800219dbd0ffb2291570fc357514fc6883b6f9366880bdc18", func := "countinghouse/countinghouselaw14.TxLate", spec := "txLate", unfollowed := true, recurses := true, apart := false, narrowed := true }
def TxLateUptoSaid : Prop := txLateUptoRow.holds Try.pinned (OpenSpec.upto txLateSpec)

/-- 'countinghouselaw14.TxOwn', WHERE WHAT IT READS IS OF BULK AT MOST 1048576: true; the input reads as it did. -/
def txOwnUptoRow : OpenClaim := { program := "ytkcppngopdiljaa", sum := "dfc4ce97405f075800219dbd0ffb2291570fc357514fc6883b6f9366880bdc18", func := "countinghouse/countinghouselaw14.TxOwn", spec := "txOwn", unfollowed := true, recurses := true, apart := false, narrowed := true }
def TxOwnUptoSaid : Prop := txOwnUptoRow.holds Try.pinned (OpenSpec.upto txOwnSpec)

/-- 'countinghouselaw14.TxNil', WHERE WHAT IT READS IS OF BULK AT MOST 1048576: true; the input reads as it did. -/
def txNilUptoRow : OpenClaim := { program := "ytkcppngopdiljaa", sum := "dfc4ce97405f075800219dbd0ffb2291570fc357514fc6883b6f9366880bdc18", func := "countinghouse/countinghouselaw14.TxNil", spec := "txNil", unfollowed := true, recurses := true, apart := false, narrowed := true }
def TxNilUptoSaid : Prop := txNilUptoRow.holds Try.pinned (OpenSpec.upto txNilSpec)

/-- 'countinghouselaw14.TxSees', WHERE WHAT IT READS IS OF BULK AT MOST 1048576: true; the input reads as it did. -/
def txSeesUptoRow : OpenClaim := { program := "ytkcppngopdiljaa", sum := "dfc4ce97405f075800219dbd0ffb2291570fc357514fc6883b6f9366880bdc18", func := "countinghouse/countinghouselaw14.TxSees", spec := "txSees", unfollowed := true, recurses := true, apart := false, narrowed := true }
def TxSeesUptoSaid : Prop := txSeesUptoRow.holds Try.pinned (OpenSpec.upto txSeesSpec)

end Rows
end Go.Proofs.Ytkcppngopdiljaa
