/- Reference 3 (sha): Sum. -/
import Derived.Test.YtlgmodeibmdcgaaDoorShaLaw
import Derived.Test.YtlgmodeibmdcgaaDoorArr
import Derived.Deep.DeepCutAuto
set_option linter.unusedVariables false
set_option linter.unusedSimpArgs false
namespace Go.Proofs.YtlgmodeibmdcgaaDoor
open Go.RowKit

set_option maxHeartbeats 2000000 in
set_option maxRecDepth 100000 in
theorem constants_ok (w : World) : Calls Tryd.prog 43 #[] w fun e w' => e = .returned (.agg KV) ∧ Fr No w w' := by
  go_enter Tryd.func43, Tryd.ntmps43
  go_wp2_with (first
    | refine wpList_alloc64 rfl rfl ?_
    | refine wpList_store64 rfl rfl _ _ rfl _ KV rfl rfl rfl (by rfl) (by decide +kernel) ?_)
  refine bodyPost_ret (results_cell_row rfl _ _ w.heap.size 72 KV (0, 0) _ rfl (heap_alloc_new w _) Tryd.underlying72 rfl (by kernel_rfl)) rfl ?_
  exact ⟨rfl, (Fr.refl No w).alloc _⟩

theorem words_kv {w : World} {b : Nat} (h : w.heap[b]? = some (.cells KV 72 (0, 0))) : Words w b 0 64 Kc := Words.of h rfl fun j hj => KV_at hj
end Go.Proofs.YtlgmodeibmdcgaaDoor
