/- Keys of the document's tree. -/
import Derived.Test.YtlgmodeibmdcgaaDoorKeysP
set_option linter.unusedVariables false
set_option linter.unusedSimpArgs false
namespace Go.Proofs.YtlgmodeibmdcgaaDoor
open Go.RowKit

theorem keys_len (t : Tr) : t.keys.length = t.len := by
  induction t with
  | nil => rfl
  | leaf _ _ => rfl
  | node a b iha ihb => show (a.keys ++ b.keys).length = a.len + b.len; rw [List.length_append, iha, ihb]
theorem good_keys {B : Nat} {m : List Itm} (g : GoodM m) {w : World} {v : Value} (h : NodeAt B w v (treeOf m)) : Calls Tryd.prog 29 #[v] w fun e w' => ∃ A c, e = .returned (.slice A m.length c) ∧ Rd Ty.str w' (fun i => w.heap.size ≤ i) A (m.map (·.1)) ∧ Fr No w w' := by
  have hl : (treeOf m).len ≤ 1000000 := by rw [treeOf_len g]; have := g.len; omega
  have := keys_ok h (build_keys g.rise.once g.sep) g.rise hl (by rw [keys_len]; exact hl)
  rwa [List.length_map] at this
end Go.Proofs.YtlgmodeibmdcgaaDoor
