/- The law LedgerNil: the card. -/
import Derived.Test.YtlmhphejgahfbaaGreatDoorMrowledgernilKRowLedgerNilb
set_option linter.unusedVariables false
namespace Go.Proofs.YtlmhphejgahfbaaGreatDoor
open Go
theorem ledgerNil_holds : Rows.LedgerNilCardSaid :=
  Claim7.holds_tied_plain_at .later [] [.data, .data, .pinned] true Rows.ledgerNilCard.stood.harness false
    ledgerNil.over (fun _ h => by cases h) (by kernel_rfl) (fun _ h => by cases h) ledgerNil_row_tie rfl ⟨rfl, rfl⟩ (by kernel_rfl) rfl
    (fun f fn hf hfn => by
      obtain rfl : f = 6 := Option.some.inj ((show Tryz.prog.funcNamed "countinghouse/countinghouselaw15.LedgerNil" = some 6 by kernel_rfl).symm.trans hf) |>.symm
      obtain rfl : fn = Tryz.f6 := (Option.some.inj (Tryz.func6.symm.trans hfn)).symm
      exact ⟨by kernel_rfl, fun j t ht => by
        rw [Tryz.params6] at ht
        have hm : t ∈ [3, 39] := by have := Array.mem_of_getElem? ht; simpa using this
        have hall : ([3, 39].all fun u => !Tryz.prog.wantsStandIn u) = true := by kernel_rfl
        exact (show Tryz.prog.wantsStandIn t = false by simpa using List.all_eq_true.1 hall t hm)⟩)
    (by kernel_rfl)
end Go.Proofs.YtlmhphejgahfbaaGreatDoor
