/- A block's inside, out of a function's body: so that a loop can be a theorem of its own. -/
import Derived.Test.YtlgmodeibmdcgaaDoorRefSum
import Derived.Test.YtlgmodeibmdcgaaDoorSum
set_option linter.unusedVariables false
set_option linter.unusedSimpArgs false
namespace Go.Proofs.YtlgmodeibmdcgaaDoor
open Go.RowKit

def find (n : Nat) : Code → Option Code
  | .seq a b => match find n a with | some c => some c | none => find n b
  | .cond _ a b => match find n a with | some c => some c | none => find n b
  | .block m c => if m == n then some c else find n c
  | .loop c => find n c
  | _ => none
def inner (c : Option Code) (n : Nat) : Code := match c with | some c => (match find n c with | some d => d | none => .skip) | none => .skip

/-- What a word's cell holds. -/
def oldU (w : World) (ad : Addr) : Int := match w.cell? ad with | some (.int _ x) => x | _ => 0
theorem keepU {w : World} {ad : Addr} {k : IntKind} {x : Int} (h : w.cell? ad = some (.int k x)) : w.cell? ad = some (.int k (oldU w ad)) := by unfold oldU; rw [h]
theorem keepS {w : World} {b k q : Nat} {v u : Value} (h : w.cell? ⟨b, q, none⟩ = some v) (hne : k ≠ q) : (w.setCell ⟨b, k, none⟩ u).cell? ⟨b, q, none⟩ = some v :=
  (World.cell?_setCell_other _ _ _ _ (by intro e; injection e with e1 e2; exact hne e2)).trans h
theorem keepF {w : World} {b k q : Nat} {u : Value} (h : w.frozen? ⟨b, q, none⟩ = false) : (w.setCell ⟨b, k, none⟩ u).frozen? ⟨b, q, none⟩ = false := by
  rw [World.frozen?_setCell]; exact h
end Go.Proofs.YtlgmodeibmdcgaaDoor
