/- The law LedgerDeletes: the card. -/
import Derived.Test.YtlmhphejgahfbaaGreatDoorMrowledgerdeletesKRowLedgerDeletesb
set_option linter.unusedVariables false
namespace Go.Proofs.YtlmhphejgahfbaaGreatDoor
open Go
theorem ledgerDeletes_holds : Rows.LedgerDeletesCardSaid :=
  Claim7.holds_tied_plain_at .later [] [.data, .data, .pinned] true Rows.ledgerDeletesCard.stood.harness false
    ledgerDeletes.over (fun _ h => by cases h) (by kernel_rfl) (fun _ h => by cases h) ledgerDeletes_row_tie rfl ⟨rfl, rfl⟩ (by kernel_rfl) rfl
    (fun f fn hf hfn => by
      obtain rfl : f = 5 := Option.some.inj ((show Tryz.prog.funcNamed "countinghouse/countinghouselaw15.LedgerDeletes" = some 5 by kernel_rfl).symm.trans hf) |>.symm
      obtain rfl : fn = Tryz.f5 := (Option.some.inj (Tryz.func5.symm.trans hfn)).symm
      exact ⟨by kernel_rfl, fun j t ht => by
        rw [Tryz.params5] at ht
        have hm : t ∈ [45, 5, 46] := by have := Array.mem_of_getElem? ht; simpa using this
        have hall : ([45, 5, 46].all fun u => !Tryz.prog.wantsStandIn u) = true := by kernel_rfl
        exact (show Tryz.prog.wantsStandIn t = false by simpa using List.all_eq_true.1 hall t hm)⟩)
    (by kernel_rfl)
end Go.Proofs.YtlmhphejgahfbaaGreatDoor
