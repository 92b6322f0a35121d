/- The law HistoryFails: the row. -/
import Derived.Test.YtfaooohenicfbaaGreatDoorRowHistoryFailsa
set_option linter.unusedVariables false
namespace Go.Proofs.YtfaooohenicfbaaGreatDoor.historyFails
open Go.ChangeShapes Go.WideShapes Go.ChangeAt Go.RowKit
open Go.ChangeMaps (open_string shut_string)
theorem over : Rows.historyFailsRow.holds Tryz.pinned (OpenSpec.ofChange Rows.historyFailsSpec) :=
  OpenClaim.holds_of_wide 5 Tryz.f5 rfl rfl rfl rfl rfl rfl rfl ⟨rfl, rfl, rfl, rfl, rfl⟩ rfl rfl rfl rfl rfl (by kernel_rfl) Tryz.func5 (by kernel_rfl)
    (of_decide_eq_true (by kernel_rfl)) (by unfold Func.isWrapper; first | (rw [if_pos (by decide +kernel)]; kernel_rfl) | (rw [if_neg (by decide +kernel)]; exact ⟨rfl, rfl⟩))
    (fun os started H enc _ => lifted os started H enc)
end Go.Proofs.YtfaooohenicfbaaGreatDoor.historyFails
